/- The plain law: what the plain programs compute, put together in one text. -/
import Derived.Test.YtdcafiefjakfeaaGreatLw1
import Derived.Test.YtdcafiefjakfeaaGreatLc1
import Derived.Test.YtdcafiefjakfeaaGreatSh
namespace Go.Proofs.YtdcafiefjakfeaaGreat.Sh
open Go
set_option linter.unusedVariables false
set_option linter.unusedSimpArgs false
def asR (s:Segment):Record:=⟨(⟨(⟨#[65]⟩:ByteArray),(⟨#[65]⟩:ByteArray),ByteArray.empty,(⟨#[65,65,65]⟩:ByteArray)⟩:SourceID),s.Start,s.First,s.Rate,s.Error,0,0,s.Samples⟩
theorem b3m (s:Segment):a6q (asR s).Source=true:=rsrcA'
where rsrcA':a6q (⟨(⟨#[65]⟩:ByteArray),(⟨#[65]⟩:ByteArray),ByteArray.empty,(⟨#[65,65,65]⟩:ByteArray)⟩:SourceID)=true:=by decide
theorem a7z (s:Segment):a6q (P8 s).Source=true:=bsrc
where bsrc:a6q (⟨⟨#[78]⟩,⟨#[83]⟩,ByteArray.empty,⟨#[67,72,65]⟩⟩:SourceID)=true:=by decide
theorem b2b (s:Segment):a5m (asR s)=a5m (P8 s):=by
 unfold a5m
 rw [b3m,a7z]
 rfl
theorem asR_rf {s:Segment} (h:RF (P8 s)):RF (asR s):=R5.1 ((b2b s).trans (R5.2 h))
theorem b4X {s:Segment} (h:s.Samples.length≤1000000000):L6 s=some (a5m (P8 s)):=by
 unfold L6 U0
 simp only [Option.bind_some]
 have:=a1W (r:=P8 s) (a7V (a7z s)) h
 unfold P8 at this
 rw [this]
 rfl
theorem b3O {s:Segment} (h:s.Samples.length≤1000000000):V4 s=some (a5m (P8 s)):=by
 unfold V4 a0p
 simp only [Option.bind_some]
 have:=a1j (r:=asR s) (a7V (b3m s)) h
 unfold asR at this
 rw [this]
 simp only [Option.bind_some]
 exact congrArg some (b2b s)
def b2V (b:Segment) (w o:Int) (r:Record):Segment:=⟨b.Start,b.First,b.Rate,min (max w r.Error+max o (a3u b r)) 1099511627776,b.Samples ++ r.Samples⟩
theorem b1S {tol:Int} {b:Segment} {w o:Int} {r:Record} (hR:RF r) (h:b.Samples≠[]→RF (P8 b)) (w0:0≤w) (w1:w≤1099511627776) (o0:0≤o) (o1:o≤9007199254740992) :
  (fitS tol b r∧H9 ⟨b,w,o⟩ r tol=some (⟨b2V b w o r,max w r.Error,max o (a3u b r)⟩,a5m (P8 (b2V b w o r)))) ∨
  (¬ fitS tol b r∧∃ x,H9 ⟨b,w,o⟩ r tol=some (x,false)):=by
 unfold H9
 simp only
 by_cases h1:r.Rate=b.Rate∧b.Samples≠[]
 case neg=>
  right
  refine ⟨fun hf=>h1 ⟨hf.1,hf.2.1⟩,⟨b,w,o⟩,?_⟩
  rw [if_pos]
  by_cases h2:r.Rate=b.Rate
  ·have h3:b.Samples=[]:=Classical.byContradiction fun h3=>h1 ⟨h2,h3⟩
   rw [h3]
   simp
  ·have:((r.Rate.Num == b.Rate.Num) && ((r.Rate.Den == b.Rate.Den) && true))=false:=by
    rw [Bool.eq_false_iff]
    exact fun h=>h2 ((a4f _ _).1 h)
   rw [this];rfl
 obtain ⟨h2,h3⟩:=h1
 have hB:=h h3
 have hl:=hB.tb (i:=(b.Samples.length:Int)) (by omega) (by show (b.Samples.length:Int)≤b.Samples.length;omega)
 have hrt:=hR.tb (i:=0) (by omega) (by omega)
 have f0:0≤b.First:=hB.f0
 have f1:b.First+b.Samples.length≤16777216:=hB.f1
 have bl:b.Samples.length≤65536:=hB.l1
 have rl:=hR.l1
 rw [if_neg (by
  rw [(a4f _ _).2 h2]
  have:(b.Samples.length:Int)≠0:=fun e=>h3 (List.eq_nil_of_length_eq_zero (by omega))
  simpa using h3),y8 (x:=b.First+(b.Samples.length:Int)) (by omega) (by omega),a1N]
 have ht:=hB.timeV (i:=(b.Samples.length:Int)) (by omega) (by show (b.Samples.length:Int)≤b.Samples.length;omega)
 rw [a7A] at ht hl
 rw [show timeV b.Start b.Rate (b.First+(b.Samples.length:Int))=(a6n b (b.Samples.length:Int),0) from ht,b1L hR (Int.le_refl 0) (by omega)]
 simp only [Option.bind_some]
 rw [y8 (x:=o5 r 0 - a6n b b.Samples.length) (by omega) (by omega),b5O (by omega) (by omega)]
 simp only [Option.bind_some]
 have eo:b1m (o5 r 0 - a6n b b.Samples.length)=a3u b r:=rfl
 rw [eo]
 have ob:0≤a3u b r∧a3u b r≤9007199254740992:=by
  unfold a3u b1m;omega
 by_cases h4:tol<a3u b r
 ·right
  rw [if_pos (decide_eq_true h4)]
  exact ⟨fun hh=>by have:=hh.2.2;omega,_,rfl⟩
 left
 rw [if_neg (by simpa using h4),b5I _ _ (by omega) (by omega)]
 simp only [Option.bind_some]
 have e0:=hR.e0;have e1:=hR.e1
 rw [y8 (x:=max w r.Error+max o (a3u b r)) (by omega) (by omega)]
 refine ⟨⟨h2,h3,by omega⟩,?_⟩
 rw [b4X (by simp;omega)]
 rfl
theorem rtimeS {s:Segment} (h:RF (P8 s)):a4J s.Start s.Rate (w64 (s.First+(s.Samples.length:Int)))=some (a6n s s.Samples.length,0):=by
 have f0:0≤s.First:=h.f0
 have f1:s.First+s.Samples.length≤16777216:=h.f1
 have ht:=h.timeV (i:=(s.Samples.length:Int)) (by omega) (by show (s.Samples.length:Int)≤s.Samples.length;omega)
 rw [a7A] at ht
 rw [y8 (by omega) (by omega),a9f]
 exact congrArg some ht
theorem fresh_rf {r:Record} (h:RF r):RF (P8 (a4b r)):=
 ⟨a7z _,h.l0,h.l1,h.f0,h.f1,h.e0,h.e1,by show (0:Int)≤0;omega,by show (0:Int)≤65535;omega,by show (0:Int)≤0;omega,by show (0:Int)≤1073741824;omega,h.rv,h.s0,h.s1,h.te,h.smp⟩
theorem segs_sim {m:List Record} (hm:∀ r∈m,RF r) (hl:m.length≤100000) {tol:Int} (t0:0≤tol) (t1:tol≤1000000) (e:Int) :
  ∃ S,l9 (M4 tol (m,e)) (0,0,0,0,0,([]:List Int),0,0,([]:List Segment),0)=some S∧l9 (a2w tol (m,e)) (([]:List Segment),0,0,0)=some S∧S.length≤m.length∧∀ s∈S,RF (P8 s):=by
 obtain ⟨r,q,e1,e2,rfl,h3,h4⟩:=sim (b1:=M4 tol (m,e)) (b2:=a2w tol (m,e))
  (fun n s t=>∃ (b:Segment) (w o:Int) (out:List Segment) (i:Nat),s=(b.Start,b.First,b.Rate.Num,b.Rate.Den,b.Error,b.Samples,w,o,out,(i:Int))∧t=(out,w,o,(i:Int))∧n+i=m.length∧i≤m.length∧out.length≤i ∧
   (∀ s∈out,RF (P8 s))∧0≤w∧w≤1099511627776∧0≤o∧o≤tol∧((out=[]∧b.Samples=[])∨∃ o',out=o' ++ [b])) (fun r q=>r=q∧r.length≤m.length∧∀ s∈r,RF (P8 s)) (fun n s t ⟨b,w,o,out,i,hs,ht,hn,him,hol,hok,w0,w1,o0,o1,hlast⟩=>by
   subst hs ht
   unfold M4 a2w
   simp only
   by_cases hi:i<m.length
   case neg=>
    right
    rw [if_neg (by simp;omega),if_neg (by simp;omega)]
    exact ⟨_,_,rfl,rfl,rfl,by omega,hok⟩
   left
   have hR:=hm _ (List.getElem_mem hi)
   obtain ⟨r,hr⟩:∃ r,m[i]=r:=⟨_,rfl⟩
   rw [hr] at hR
   rw [if_pos (decide_eq_true (by omega)),if_pos (decide_eq_true (by omega)),w9 _ _ hi,hr]
   simp only [Option.bind_some]
   have hbR:b.Samples≠[]→RF (P8 b):=fun hb=>by
    rcases hlast with ⟨_,h⟩ | ⟨o',h⟩
    ·exact absurd h hb
    ·exact hok b (by rw [h];simp)
   have eta:(⟨(⟨b.Start,b.First,(⟨b.Rate.Num,b.Rate.Den⟩:Rate),b.Error,b.Samples⟩:Segment),w,o⟩:Continuity_builder)=⟨b,w,o⟩:=rfl
   rw [eta]
   have l1:=hR.l1
   have hr0:J4 r 0=some (o5 r 0):=hR.reftime (Int.le_refl 0) (by omega)
   have new1:((K7 r.Samples).bind fun rv522=>(U8 64 out ([(⟨r.Start,r.First,r.Rate,r.Error,rv522⟩:Segment)]:List Segment)).bind fun l537=>J7 (b.Start,b.First,b.Rate.Num,b.Rate.Den,b.Error,b.Samples,w,o,out,(i:Int)) r.Start r.First r.Rate.Num r.Rate.Den r.Error rv522 r.Error 0 l537) =
     some (.inl (r.Start,r.First,r.Rate.Num,r.Rate.Den,r.Error,r.Samples,r.Error,0,out ++ [a4b r],((i+1:Nat):Int))):=by
    rw [a8J _ (by omega)]
    simp only [Option.bind_some]
    rw [E5 _ _ _ (by simp;omega) (by decide)]
    simp only [Option.bind_some]
    unfold J7
    simp only
    rw [G7 (by omega)]
    rfl
   have new2:a0O (out,w,o,(i:Int)) r=some (.inl (out ++ [a4b r],r.Error,0,((i+1:Nat):Int))):=by
    unfold a0O a0N
    rw [E5 _ _ _ (by simp;omega) (by decide)]
    simp only [Option.bind_some,List.nil_append]
    rw [E5 _ _ _ (by simp;omega) (by decide)]
    simp only [Option.bind_some]
    rw [G7 (by omega)]
    rfl
   have newR:∃ (b':Segment) (w' o':Int) (out':List Segment) (i':Nat),(r.Start,r.First,r.Rate.Num,r.Rate.Den,r.Error,r.Samples,r.Error,(0:Int),out ++ [a4b r],((i+1:Nat):Int))=(b'.Start,b'.First,b'.Rate.Num,b'.Rate.Den,b'.Error,b'.Samples,w',o',out',(i':Int))∧(out ++ [a4b r],r.Error,(0:Int),((i+1:Nat):Int))=(out',w',o',(i':Int))∧(n - 1)+i'=m.length∧i'≤m.length∧out'.length≤i' ∧
     (∀ s∈out',RF (P8 s))∧0≤w'∧w'≤1099511627776∧0≤o'∧o'≤tol∧((out'=[]∧b'.Samples=[])∨∃ o'',out'=o'' ++ [b']):=
    ⟨a4b r,r.Error,0,out ++ [a4b r],i+1,rfl,rfl,by omega,by omega,by simp;omega,fun s hs=>by
     rcases List.mem_append.1 hs with hs | hs
     ·exact hok s hs
     ·rcases List.mem_singleton.1 hs with rfl
      exact fresh_rf hR,hR.e0,hR.e1,Int.le_refl _,t0,.inr ⟨out,rfl⟩⟩
   rcases hlast with ⟨ho,hbs⟩ | ⟨o',ho⟩
   ·
    rcases b1S (tol:=tol) (b:=b) (w:=w) (o:=o) hR hbR w0 w1 o0 (by omega) with ⟨hf,_⟩ | ⟨_,x,ej⟩
    ·exact absurd hbs hf.2.1
    ·rw [ej]
     simp only [Option.bind_some,Bool.false_eq_true,if_false]
     rw [new1]
     have hz:decide ((0:Int)<(out.length:Int))=false:=by rw [ho];rfl
     rw [hz]
     simp only [Bool.false_eq_true,if_false,Option.bind_some]
     rw [new2]
     exact ⟨_,_,n - 1,rfl,rfl,newR,by omega⟩
   ·have hB:RF (P8 b):=hok b (by rw [ho];simp)
    have bl0:1≤b.Samples.length:=hB.l0
    have bl1:b.Samples.length≤65536:=hB.l1
    have hbne:b.Samples≠[]:=fun e=>by rw [e] at bl0;simp at bl0
    have hlen:out.length=o'.length+1:=by rw [ho];simp
    have hix:w64 ((out.length:Int) - 1)=(o'.length:Int):=by rw [y8 (by omega) (by omega)];omega
    have i1:ix out (o'.length:Int)=some b:=by rw [ho];exact a8K _ _
    have i2:∀ t',a3X out (o'.length:Int) t'=some (o' ++ [t']):=fun t'=>by rw [ho];exact a5N _ _ _
    have hz:decide ((0:Int)<(out.length:Int))=true:=decide_eq_true (by omega)
    rw [hz,hix,i1]
    simp only [if_true,Option.bind_some]
    rw [rtimeS hB,hr0]
    simp only [Option.bind_some,beq_self_eq_true,if_true]
    have hl:=hB.tb (i:=(b.Samples.length:Int)) (by omega) (by show (b.Samples.length:Int)≤b.Samples.length;omega)
    have hrt:=hR.tb (i:=0) (by omega) (by omega)
    rw [a7A] at hl
    rw [y8 (x:=o5 r 0 - a6n b b.Samples.length) (by omega) (by omega)]
    obtain ⟨D,hD⟩:∃ D,o5 r 0 - a6n b b.Samples.length=D:=⟨_,rfl⟩
    have hoff:a3u b r=max D (-D):=by unfold a3u b1m;rw [hD]
    rw [hD,y8 (x:=0 - tol) (by omega) (by omega),y8 (x:=0 - D) (by omega) (by omega),Int.zero_sub,Int.zero_sub,a0H]
    simp only [Option.bind_some]
    have e0:=hR.e0;have e1:=hR.e1
    rcases b1S (tol:=tol) (b:=b) (w:=w) (o:=o) hR hbR w0 w1 o0 (by omega) with ⟨hf,ej⟩ | ⟨hf,x,ej⟩
    ·rw [ej]
     simp only [Option.bind_some]
     obtain ⟨f1,f2,f3⟩:=hf
     rw [hoff] at f3
     rw [if_pos ((a4f _ _).2 f1.symm),show inB D (-tol) tol=true from V7.2 (by omega)]
     simp only [if_true]
     rw [E5 _ _ _ (by simp;omega) (by decide)]
     simp only [Option.bind_some,List.nil_append]
     rw [E5 _ _ _ (by omega) (by decide)]
     simp only [Option.bind_some]
     rw [← hoff,y8 (x:=max w r.Error+max o (a3u b r)) (by omega) (by omega)]
     have em:(⟨b.Start,b.First,b.Rate,min (max w r.Error+max o (a3u b r)) 1099511627776,b.Samples ++ r.Samples⟩:Segment)=b2V b w o r:=rfl
     rw [em,b3O (by show (b.Samples ++ r.Samples).length≤_;simp;omega)]
     simp only [Option.bind_some]
     cases hv:a5m (P8 (b2V b w o r)) with
     | true=>
      simp only [if_true]
      rw [i2]
      simp only [Option.bind_some]
      unfold J7 a0N
      simp only [Option.bind_some]
      rw [G7 (by omega)]
      refine ⟨_,_,n - 1,rfl,rfl,⟨b2V b w o r,max w r.Error,max o (a3u b r),o' ++ [b2V b w o r],i+1,rfl,rfl,by omega,by omega,by simp;omega,fun s hs=>?_,by omega,by omega,by omega,by omega,.inr ⟨o',rfl⟩⟩,by omega⟩
      rcases List.mem_append.1 hs with hs | hs
      ·exact hok s (by rw [ho];exact List.mem_append_left _ hs)
      ·rcases List.mem_singleton.1 hs with rfl
       exact R5.1 hv
     | false=>
      simp only [Bool.false_eq_true,if_false]
      rw [new1]
      unfold a0P
      rw [new2]
      exact ⟨_,_,n - 1,rfl,rfl,newR,by omega⟩
    ·rw [ej]
     simp only [Option.bind_some,Bool.false_eq_true,if_false]
     rw [new1]
     have:(if ((b.Rate.Num == r.Rate.Num) && ((b.Rate.Den == r.Rate.Den) && true))=true then (some (inB D (-tol) tol)).bind fun c1044=>some c1044 else some false)=some false:=by
      by_cases h1:b.Rate=r.Rate
      ·rw [if_pos ((a4f _ _).2 h1)]
       have:inB D (-tol) tol=false:=by
        rw [Bool.eq_false_iff]
        intro h
        have h:=V7.1 h
        exact hf ⟨h1.symm,hbne,by rw [hoff];omega⟩
       rw [this];rfl
      ·rw [if_neg (fun h=>h1 ((a4f _ _).1 h))]
     unfold a0P
     by_cases h1:b.Rate=r.Rate
     ·have h2:inB D (-tol) tol=false:=by
       rw [Bool.eq_false_iff]
       intro h
       have h:=V7.1 h
       exact hf ⟨h1.symm,hbne,by rw [hoff];omega⟩
      rw [if_pos ((a4f _ _).2 h1),h2]
      simp only [Bool.false_eq_true,if_false]
      rw [new2]
      exact ⟨_,_,n - 1,rfl,rfl,newR,by omega⟩
     ·rw [if_neg (fun h=>h1 ((a4f _ _).1 h)),new2]
      exact ⟨_,_,n - 1,rfl,rfl,newR,by omega⟩) m.length _ _ ⟨⟨0,0,⟨0,0⟩,0,[]⟩,0,0,[],0,rfl,rfl,by omega,Nat.zero_le _,Nat.le_refl _,fun s h=>absurd h List.not_mem_nil,Int.le_refl _,by decide,Int.le_refl _,t0,.inl ⟨rfl,rfl⟩⟩
 exact ⟨r,e1,e2,h3,h4⟩
theorem b3b {l:List Record} (h:SmL l) (tol:Int):∃ S e,M8 l tol=some (S,e)∧a1k l tol=some (S,e)∧S.length≤1000∧∀ s∈S,RF (P8 s):=by
 have hl:=h.len
 cases hv:a2n l with
 | false=>
  refine ⟨[],1,?_,?_,by simp,fun s h=>absurd h List.not_mem_nil⟩
  ·unfold M8 a0z
   rw [b0w h.rs (by omega),hv]
   rfl
  ·unfold a1k a3y
   rw [b0R h.rs (by omega),hv]
   rfl
 | true=>
  have hV:=h.vs hv
  obtain ⟨m,em,-,hm⟩:=b3l hV
  have hb:(30+1) * l.length≤1000:=by omega
  have er:=rcomp_ok hV hm (K:=30) h.sm hb (by omega)
  unfold M8 a1k
  rw [em,er]
  simp only [Option.bind_some,bne_self_eq_false,Bool.false_eq_true,if_false]
  have e1:a4Q tol 0 1000000=some (inB tol 0 1000000):=rfl
  rw [e1,a0H]
  simp only [Option.bind_some]
  have hml:m.length≤1000:=by
   rw [hm.perm.length_eq]
   have h1:=a0D (Q7 (K6 I7 l)) 31 (K6 I7 l) fun x hx=>by
    have hx:=a0n.1 hx
    have h1:=(a0c (K6 I7 l) (hV.rf x hx)).2.2
    have h2:=h.sm x hx
    unfold Q7 a1o
    rw [List.length_map];omega
   have h2:=Nat.mul_le_mul_left 31 (a0T I7 l)
   omega
  cases ht:inB tol 0 1000000 with
  | false=>exact ⟨[],2,rfl,rfl,by simp,fun s h=>absurd h List.not_mem_nil⟩
  | true=>
   have ht:=V7.1 ht
   simp only [Bool.not_true,Bool.false_eq_true,if_false]
   obtain ⟨S,e2,e3,h3,h4⟩:=segs_sim (fun r hr=>hm.rf hV.toVL hr) (by omega) ht.1 ht.2 0
   rw [e2,e3]
   exact ⟨S,0,rfl,rfl,by omega,h4⟩
end Go.Proofs.YtdcafiefjakfeaaGreat.Sh
namespace Go.Proofs.YtdcafiefjakfeaaGreat.Sh
open Go
set_option linter.unusedVariables false
set_option linter.unusedSimpArgs false
theorem half_eq {s:Int} (h0:0≤s) (h1:s≤9223372036854775807):shrM .u64 (IntKind.u64.wrap (w64 s)) 1=some (s / 2):=by
 rw [y8 (by omega) (by omega),u64_id h0 h1]
 unfold shrM
 rw [if_neg (by decide)]
 have:(2:Int) ^ min (1:Int).toNat IntKind.u64.bits=2:=by decide
 rw [this,Int.fdiv_eq_ediv_of_nonneg _ (by decide)]
theorem b1i (p:Nat→Bool) (f:Int→Option Bool) (n:Nat) (hn:n≤1000000000) (hf:∀ i:Nat,i<n→f (i:Int)=some (p i)) (hm:∀ i j,i≤j→j<n→p i=true→p j=true) :
  ∃ k:Nat,sort_Search (n:Int) f=some (k:Int)∧k≤n∧(∀ i,i<k→p i=false)∧(∀ i,k≤i→i<n→p i=true):=by
 unfold sort_Search
 have hw:=a9D (body:=a6j f) (fun s=>∃ a b:Nat,s=((a:Int),(b:Int))∧a≤b∧b≤n∧(∀ i,i<a→p i=false)∧(∀ i,b≤i→i<n→p i=true)) (fun s=>(s.2 - s.1).toNat)
  (fun e=>∃ k:Nat,e=(k:Int)∧k≤n∧(∀ i,i<k→p i=false)∧(∀ i,k≤i→i<n→p i=true)) (by
   rintro s ⟨a,b,rfl,hab,hb,h1,h2⟩
   unfold a6j
   simp only
   by_cases h:a<b
   ·left
    rw [if_pos (decide_eq_true (by omega)),half_eq (by omega) (by omega)]
    simp only [Option.bind]
    obtain ⟨m,hmd⟩:∃ m:Nat,((a:Int)+b) / 2=m:=⟨_,(Int.toNat_of_nonneg (by omega)).symm⟩
    rw [hmd,y8 (by omega) (by omega),hf m (by omega)]
    simp only [a4t]
    cases hp:p m with
    | true=>
     refine ⟨((a:Int),(m:Int)),by simp,⟨a,m,rfl,by omega,by omega,h1,fun i hi hin=>hm m i hi hin hp⟩,by simp only;omega⟩
    | false=>
     refine ⟨(((m+1:Nat):Int),(b:Int)),?_,⟨m+1,b,rfl,by omega,hb,fun i hi=>?_,h2⟩,by simp only;omega⟩
     ·simp only [Bool.not_false,if_true]
      rw [y8 (by omega) (by omega)]
      rfl
     ·cases hq:p i with
      | false=>rfl
      | true=>rw [hm i m (by omega) (by omega) hq] at hp;cases hp
   ·right
    rw [if_neg (by simpa using h)]
    have:a=b:=by omega
    subst this
    exact ⟨_,rfl,a,rfl,hb,h1,h2⟩) ((0:Nat),(n:Int)) ⟨0,n,rfl,by omega,Nat.le_refl _,fun i hi=>by omega,fun i h1 h2=>by omega⟩
 obtain ⟨e,he,k,rfl,hk⟩:=hw
 rw [show (0:Int)=((0:Nat):Int) from rfl,he]
 exact ⟨k,rfl,hk⟩
theorem b4Z {r:Record} (h:RF r) (t:Int):∃ k:Nat,a5D r 0 t=some (k:Int)∧k≤r.Samples.length∧(∀ i:Nat,i<k→o5 r i<t)∧(∀ i:Nat,k≤i→i<r.Samples.length→t≤o5 r i):=by
 have hl:=h.l1
 obtain ⟨k,h1,h2,h3,h4⟩:=b1i (fun i=>decide (t≤o5 r i)) (fun y0=>a1f y0 r 0 t) r.Samples.length (by omega) (fun i hi=>by
  unfold a1f
  rw [show (i:Int)+0=(i:Int) by omega,y8 (by omega) (by omega),a2B h (by omega) (by omega)]
  rfl) (fun i j hij hj hp=>by
   have:=h.mono (i:=i) (j:=j) (by omega)
   simp only [decide_eq_true_eq] at *
   omega)
 refine ⟨k,?_,h2,fun i hi=>by have:=h3 i hi;simp at this;omega,fun i hi hin=>by have:=h4 i hi hin;simpa using this⟩
 unfold a5D
 rw [h1]
 rfl
theorem b6o {r:Record} (h:RF r) (t:Int):∃ k:Nat,sort_Search (r.Samples.length:Int) (fun y0=>Y6 y0 r t)=some (k:Int)∧k≤r.Samples.length∧(∀ i:Nat,i<k→o5 r (i+1)≤t)∧(∀ i:Nat,k≤i→i<r.Samples.length→t<o5 r (i+1)):=by
 have hl:=h.l1
 obtain ⟨k,h1,h2,h3,h4⟩:=b1i (fun i=>decide (t<o5 r (i+1))) (fun y0=>Y6 y0 r t) r.Samples.length (by omega) (fun i hi=>by
  unfold Y6
  rw [y8 (by omega) (by omega),a2B h (by omega) (by omega)]
  rfl) (fun i j hij hj hp=>by
   have:=h.mono (i:=(i:Int)+1) (j:=(j:Int)+1) (by omega)
   simp only [decide_eq_true_eq] at *
   omega)
 exact ⟨k,h1,h2,fun i hi=>by have:=h3 i hi;simp at this;omega,fun i hi hin=>by have:=h4 i hi hin;simpa using this⟩
abbrev noRec:Record:=⟨⟨ByteArray.empty,ByteArray.empty,ByteArray.empty,ByteArray.empty⟩,0,0,⟨0,0⟩,0,0,0,[]⟩
def b1f (r:Record) (a b:Nat):Record × Bool × Int:=if a<b then (a7q r a b,true,0) else (noRec,false,0)
theorem part_eq {r:Record} (h:RF r) {a b:Nat} (hb:b≤r.Samples.length):a6B r a b=some (b1f r a b):=by
 unfold a6B b1f
 by_cases hab:a<b
 ·rw [if_neg (by simp;omega),sub_eq h (by omega) hb,if_pos hab]
  rfl
 ·rw [if_pos (decide_eq_true (by omega)),if_neg hab]
theorem b1b {r:Record} (h:RF r) (f t:Int):∃ a b:Nat,a4T r f t=some (b1f r a b)∧a≤r.Samples.length∧b≤r.Samples.length∧(∀ i:Nat,i<a→o5 r i<f)∧(∀ i:Nat,a≤i→i<r.Samples.length→f≤o5 r i) ∧
  (∀ i:Nat,i<b→o5 r (i+1)≤t)∧(∀ i:Nat,b≤i→i<r.Samples.length→t<o5 r (i+1)):=by
 obtain ⟨a,a1,a2,a3,a4⟩:=b4Z h f
 obtain ⟨b,b1,b2,b3,b4⟩:=b6o h t
 refine ⟨a,b,?_,a2,b2,a3,a4,b3,b4⟩
 unfold a4T
 rw [h.valid,a1,b1]
 simp only [Option.bind,Bool.not_true,Bool.false_eq_true,if_false]
 rw [part_eq h b2]
end Go.Proofs.YtdcafiefjakfeaaGreat.Sh
namespace Go.Proofs.YtdcafiefjakfeaaGreat.Sh
open Go
set_option linter.unusedVariables false
set_option linter.unusedSimpArgs false
structure WinAt (s:Segment) (f t:Int) (a b:Nat):Prop where
 al:a≤s.Samples.length
 bl:b≤s.Samples.length
 a1:∀ i:Nat,i<a→a6n s i<f
 a2:∀ i:Nat,a≤i→i<s.Samples.length→f≤a6n s i
 b1:∀ i:Nat,i<b→a6n s (i+1)≤t
 b2:∀ i:Nat,b≤i→i<s.Samples.length→t<a6n s (i+1)
end Go.Proofs.YtdcafiefjakfeaaGreat.Sh
namespace Go.Proofs.YtdcafiefjakfeaaGreat.Sh
open Go
set_option linter.unusedVariables false
set_option linter.unusedSimpArgs false
def a2G (a b i:Nat):Int × Int × Int:=(if a<i∧a<b then (a:Int) else -1,if a<i∧a<b then ((min i b:Nat):Int) - 1 else -1,(i:Int))
theorem seen_j1 {a b i:Nat} (hi:i≤100000) (inv:Bool) (h:inv=true↔a≤i∧i<b):a2c (a2G a b i) inv=some (.inl (a2G a b (i+1))):=by
 have hw:w64 ((i:Int)+1)=((i+1:Nat):Int):=by rw [y8 (by omega) (by omega)];rfl
 unfold a2c
 cases inv with
 | true=>
  obtain ⟨h1,h2⟩:=h.1 rfl
  simp only [if_true]
  by_cases ha:a<i
  ·have e1:(a2G a b i).1=a:=by unfold a2G;rw [if_pos ⟨ha,by omega⟩]
   rw [e1,if_neg (by simp)]
   unfold a3w a2d
   simp only [a2G,Option.bind,hw]
   rw [if_pos (show a<i+1∧a<b by omega),if_pos (show a<i+1∧a<b by omega),show min (i+1) b=i+1 by omega]
   congr 3
   simp only [Prod.mk.injEq,true_and,and_true];omega
  ·have e1:(a2G a b i).1=-1:=by unfold a2G;rw [if_neg (by omega)]
   rw [e1,if_pos (by decide)]
   unfold a3w a2d
   simp only [a2G,Option.bind,hw]
   rw [if_pos (show a<i+1∧a<b by omega),if_pos (show a<i+1∧a<b by omega),show min (i+1) b=i+1 by omega,show a=i by omega]
   congr 3
   simp only [Prod.mk.injEq,true_and,and_true];omega
 | false=>
  have hn:¬ (a≤i∧i<b):=fun hh=>by have:=h.2 hh;cases this
  simp only [Bool.false_eq_true,if_false]
  unfold a2d
  simp only [a2G,Option.bind,hw]
  by_cases hab:a<i∧a<b
  ·rw [if_pos hab,if_pos hab,if_pos (show a<i+1∧a<b by omega),if_pos (show a<i+1∧a<b by omega),show min (i+1) b=min i b by omega]
  ·rw [if_neg hab,if_neg hab,if_neg (show ¬ (a<i+1∧a<b) by omega),if_neg (show ¬ (a<i+1∧a<b) by omega)]
theorem b5n {r:Record} (h:RF r) (f t:Int) (w:Bool) {a b:Nat} (hb:b≤r.Samples.length)
  (hp:∀ i:Nat,i<r.Samples.length→((f≤o5 r i∧(if w=true then o5 r (i+1)≤t else o5 r i<t))↔a≤i∧i<b)):a7R r f t w=some (b1f r a b):=by
 have l1:=h.l1
 unfold a7R
 rw [h.refvalid]
 simp only [Option.bind,Bool.not_true,Bool.false_eq_true,if_false]
 have hw:l9 (a3x r f t w) (-1,-1,0)=some ((a2G a b r.Samples.length).1,(a2G a b r.Samples.length).2.1):=by
  refine D9 (fun i=>a2G a b i) r.Samples.length _ (by simp [a2G]) (fun i hi=>?_) ?_
  ·have hb':a3x r f t w (a2G a b i)=a2c (a2G a b i) (decide (f≤o5 r i) && (if w=true then decide (o5 r (i+1)≤t) else decide (o5 r i<t))):=by
    unfold a3x
    rw [show (a2G a b i).2.2=(i:Int) from rfl,if_pos (decide_eq_true (by omega)),h.reftime (by omega) (by omega),y8 (x:=(i:Int)+1) (by omega) (by omega),h.reftime (i:=(i:Int)+1) (by omega) (by omega)]
    simp only [Option.bind]
    cases w <;> cases decide (f≤o5 r i) <;> rfl
   rw [hb']
   refine seen_j1 (by omega) _ ?_
   rw [← hp i hi]
   cases w <;> simp
  ·unfold a3x
   rw [show (a2G a b r.Samples.length).2.2=(r.Samples.length:Int) from rfl,if_neg (by simp)]
 rw [hw]
 simp only
 by_cases hab:a<b
 ·have e1:(a2G a b r.Samples.length).1=a:=by unfold a2G;rw [if_pos (by omega)]
  have e2:w64 ((a2G a b r.Samples.length).2.1+1)=(b:Int):=by
   unfold a2G
   simp only
   rw [if_pos (by omega),show min r.Samples.length b=b by omega,y8 (by omega) (by omega)];omega
  rw [e1,e2,if_neg (by simp),b5N h hab hb]
  unfold b1f
  rw [if_pos hab]
 ·have e1:(a2G a b r.Samples.length).1=-1:=by unfold a2G;rw [if_neg (by omega)]
  rw [e1,if_pos (by decide)]
  unfold b1f
  rw [if_neg hab]
theorem b3B {r:Record} (h:RF r) (f t:Int):∃ a b:Nat,a5G r f t=some (b1f r a b)∧a≤r.Samples.length∧b≤r.Samples.length∧(∀ i:Nat,i<a→o5 r i<f)∧(∀ i:Nat,a≤i→i<r.Samples.length→f≤o5 r i) ∧
  (∀ i:Nat,i<b→o5 r (i+1)≤t)∧(∀ i:Nat,b≤i→i<r.Samples.length→t<o5 r (i+1)):=by
 obtain ⟨a,b,e,al,bl,a1,a2,b1,b2⟩:=b1b h f t
 refine ⟨a,b,?_,al,bl,a1,a2,b1,b2⟩
 unfold a5G
 rw [b5n h f t true bl (fun i hi=>?_)]
 ·rfl
 ·simp only [if_true]
  constructor
  ·rintro ⟨h1,h2⟩
   refine ⟨Classical.byContradiction fun hn=>?_,Classical.byContradiction fun hn=>?_⟩
   ·have:=a1 i (by omega);omega
   ·have:=b2 i (by omega) hi;omega
  ·rintro ⟨h1,h2⟩
   exact ⟨a2 i h1 hi,b1 i h2⟩
end Go.Proofs.YtdcafiefjakfeaaGreat.Sh
namespace Go.Proofs.YtdcafiefjakfeaaGreat.Sh
open Go
set_option linter.unusedVariables false
set_option linter.unusedSimpArgs false
theorem span16 {s:Segment} (h:s.Samples.length≤1000000000):∃ p e,a0g s=some (p,e)∧a2v s=some (p,e):=by
 unfold a0g a2v U0 a0p
 simp only [Option.bind_some]
 have eb:(⟨(⟨(⟨#[78]⟩:ByteArray),(⟨#[83]⟩:ByteArray),ByteArray.empty,(⟨#[67,72,65]⟩:ByteArray)⟩:SourceID),s.Start,s.First,s.Rate,s.Error,0,0,s.Samples⟩:Record)=P8 s:=rfl
 have ea:(⟨(⟨(⟨#[65]⟩:ByteArray),(⟨#[65]⟩:ByteArray),ByteArray.empty,(⟨#[65,65,65]⟩:ByteArray)⟩:SourceID),s.Start,s.First,s.Rate,s.Error,0,0,s.Samples⟩:Record)=asR s:=rfl
 rw [eb,ea]
 cases hv:a5m (P8 s) with
 | true=>
  have hB:=R5.1 hv
  have hA:=asR_rf hB
  have e1:a5n (P8 s)=some (⟨o5 (P8 s) 0,o5 (P8 s) (P8 s).Samples.length⟩,0):=by
   unfold a5n
   rw [hB.valid,a2B hB (Int.le_refl 0) (by omega),a2B hB (by omega) (Int.le_refl _)]
   rfl
  rw [e1,hA.refSpan]
  exact ⟨_,_,rfl,rfl⟩
 | false=>
  refine ⟨⟨0,0⟩,1,?_,?_⟩
  ·unfold a5n
   rw [a1W (r:=P8 s) (a7V (a7z s)) h,hv]
   rfl
  ·unfold a2D
   rw [a1j (r:=asR s) (a7V (b3m s)) h,b2b,hv]
   rfl
theorem b6k {l:List Segment} {f:Segment→Option Bool} {p:Segment→Bool} (hf:∀ r∈l,f r=some (p r)) (hl:l.length≤1000000):H7 l f=some (l.any p):=by
 unfold H7 M6
 obtain ⟨k,ek,hk⟩:=a2z (body:=H8 l f) (fun (_:Unit) i=>i) l.length (fun i _=>∀ j (h:j<l.length),j<i→p l[j]=false) (fun k=>decide (0≤k)=l.any p) (fun i hi a hI=>by
  unfold H8
  rw [if_pos (decide_eq_true (by omega)),w9 _ _ hi]
  simp only [Option.bind_some]
  rw [hf _ (List.getElem_mem hi)]
  simp only [Option.bind_some]
  cases hp:p l[i] with
  | true=>
   right
   refine ⟨_,rfl,?_⟩
   rw [decide_eq_true (by omega)]
   exact (List.any_eq_true.2 ⟨_,List.getElem_mem hi,hp⟩).symm
  | false=>
   left
   simp only [Bool.false_eq_true,if_false]
   rw [G7 (by omega)]
   refine ⟨(),rfl,fun j hj hji=>?_⟩
   by_cases e:j=i
   ·subst e;exact hp
   ·exact hI j hj (by omega)) (fun a hI=>by
  unfold H8
  rw [if_neg (by simp)]
  refine ⟨_,rfl,?_⟩
  rw [decide_eq_false (by omega)]
  symm
  rw [List.any_eq_false]
  intro r hr
  obtain ⟨j,hj,rfl⟩:=List.mem_iff_getElem.1 hr
  rw [hI j hj hj];decide) () (fun j _ h=>by omega)
 rw [ek]
 simp only [Option.bind_some]
 rw [hk]
theorem b3j {l:List Segment} (h:∀ s∈l,RF (P8 s)) (hl:l.length≤10000) (f t:Int) :
  ∃ r,l9 (a0C l f t) (([]:List Segment),0)=some r∧l9 (a0A l f t) (([]:List Segment),0)=some r∧r.length≤l.length∧∀ s∈r,s.Samples.length≤65536:=by
 obtain ⟨r,q,e1,e2,rfl,h3,h4⟩:=sim (b1:=a0C l f t) (b2:=a0A l f t)
  (fun n s t=>s=t∧∃ i:Nat,s.2=(i:Int)∧n+i=l.length∧s.1.length≤i∧∀ x∈s.1,x.Samples.length≤65536) (fun r q=>r=q∧r.length≤l.length∧∀ s∈r,s.Samples.length≤65536) (fun n s t' ⟨hst,i,hi,hn,hs,hx⟩=>by
   subst hst
   obtain ⟨a,j⟩:=s
   simp only at hi hs hx
   subst hi
   unfold a0C a0A
   simp only
   by_cases hi:i<l.length
   case neg=>
    right
    rw [if_neg (by simp;omega),if_neg (by simp;omega)]
    exact ⟨_,_,rfl,rfl,rfl,by omega,hx⟩
   left
   have hB:=h _ (List.getElem_mem hi)
   have hA:=asR_rf hB
   obtain ⟨s,hse⟩:∃ s,l[i]=s:=⟨_,rfl⟩
   rw [hse] at hB hA
   rw [if_pos (decide_eq_true (by omega)),if_pos (decide_eq_true (by omega)),w9 _ _ hi,hse]
   simp only [Option.bind_some,U0,a0p]
   obtain ⟨a1,b1,e1,al,bl,p1,p2,p3,p4⟩:=b1b hB f t
   obtain ⟨a2,b2,e2,al',bl',q1,q2,q3,q4⟩:=b3B hA f t
   have hla:(asR s).Samples.length=(P8 s).Samples.length:=rfl
   rw [hla] at al' bl' q2 q4
   have ta:∀ i:Int,o5 (asR s) i=o5 (P8 s) i:=fun _=>rfl
   simp only [ta] at q1 q2 q3 q4
   have ea:a2=a1:=by
    rcases Nat.lt_trichotomy a2 a1 with h | h | h
    ·have:=p1 a2 h;have:=q2 a2 (Nat.le_refl _) (by omega);omega
    ·exact h
    ·have:=q1 a1 h;have:=p2 a1 (Nat.le_refl _) (by omega);omega
   have eb:b2=b1:=by
    rcases Nat.lt_trichotomy b2 b1 with h | h | h
    ·have:=p3 b2 h;have:=q4 b2 (Nat.le_refl _) (by omega);omega
    ·exact h
    ·have:=q3 b1 h;have:=p4 b1 (Nat.le_refl _) (by omega);omega
   subst ea eb
   unfold P8 at e1
   unfold asR at e2
   rw [e1,e2]
   simp only [Option.bind_some]
   unfold a0B a3M b1f
   simp only [Option.bind_some]
   rw [G7 (by omega)]
   have sl:s.Samples.length≤65536:=hB.l1
   by_cases hab:a2<b2
   ·rw [if_pos hab,if_pos hab]
    simp only [if_true]
    rw [E5 _ _ _ (by simp;omega) (by decide),E5 _ _ _ (by simp;omega) (by decide)]
    simp only [Option.bind_some]
    refine ⟨_,_,n - 1,rfl,rfl,⟨rfl,i+1,rfl,by omega,by simp;omega,fun x hx'=>?_⟩,by omega⟩
    rcases List.mem_append.1 hx' with hx' | hx'
    ·exact hx x hx'
    ·rcases List.mem_singleton.1 hx' with rfl
     show ((s.Samples.take b2).drop a2).length≤65536
     simp;omega
   ·rw [if_neg hab,if_neg hab]
    simp only [Bool.false_eq_true,if_false]
    exact ⟨_,_,n - 1,rfl,rfl,⟨rfl,i+1,rfl,by omega,Nat.le_succ_of_le hs,hx⟩,by omega⟩) l.length ([],0) ([],0) ⟨rfl,0,rfl,by omega,by simp,fun x h=>absurd h List.not_mem_nil⟩
 exact ⟨r,e1,e2,h3,h4⟩
theorem window2 {l:List Segment} (hs:∀ s∈l,s.Samples.length≤1000000000) (hl:l.length≤10000) (f t:Int):∃ r e,a2p l f t=some (r,e)∧a3i l f t=some (r,e)∧r.length≤10000∧∀ s∈r,s.Samples.length≤1000000000:=by
 unfold a2p
 rw [b6k (p:=fun s=>!(a5m (P8 s))) (fun s h=>by
  unfold a0s
  rw [b4X (hs s h)]
  rfl) (by omega)]
 simp only [Option.bind_some]
 rw [b1P]
 simp only [Option.bind_some]
 cases ha:l.any (fun s=>!(a5m (P8 s))) with
 | true=>
  refine ⟨[],1,rfl,?_,by simp,fun s h=>absurd h List.not_mem_nil⟩
  unfold a3i
  obtain ⟨s0,hs0,hp⟩:=List.any_eq_true.1 ha
  obtain ⟨k,ek,hk⟩:=a2z (body:=a1Y l f t) (fun (_:Unit) i=>i) l.length (fun i _=>∀ j (h:j<l.length),j<i→a5m (P8 l[j])=true) (fun r=>r=(([]:List Segment),(1:Int))) (fun i hi a hI=>by
   unfold a1Y
   rw [if_pos (decide_eq_true (by omega)),w9 _ _ hi]
   simp only [Option.bind_some]
   rw [b3O (hs _ (List.getElem_mem hi))]
   simp only [Option.bind_some]
   cases hv:a5m (P8 l[i]) with
   | true=>
    left
    simp only [Bool.not_true,Bool.false_eq_true,if_false]
    rw [G7 (by omega)]
    refine ⟨(),rfl,fun j hj hji=>?_⟩
    by_cases e:j=i
    ·subst e;exact hv
    ·exact hI j hj (by omega)
   | false=>exact .inr ⟨_,rfl,rfl⟩) (fun a hI=>by
   obtain ⟨j,hj,rfl⟩:=List.mem_iff_getElem.1 hs0
   rw [hI j hj hj] at hp
   cases hp) () (fun j _ h=>by omega)
  rw [ek,hk]
 | false=>
  have hall:∀ s∈l,RF (P8 s):=fun s h=>R5.1 (by
   have:=List.any_eq_false.1 ha s h
   simpa using this)
  have hend:a3i l f t=Option.map id (if ((decide (f<0)) || (decide (t<f)) || (decide (9007199254740992<t)))=true then some (([]:List Segment),(2:Int)) else (l9 (a0A l f t) (([]:List Segment),0)).bind fun e456=>some (e456,0)):=by
   obtain ⟨v,hv⟩:∃ v,(if ((decide (f<0)) || (decide (t<f)) || (decide (9007199254740992<t)))=true then some (([]:List Segment),(2:Int)) else (l9 (a0A l f t) (([]:List Segment),0)).bind fun e456=>some (e456,0))=some v:=by
    obtain ⟨r,_,e2,_⟩:=b3j hall hl f t
    rw [e2]
    split <;> exact ⟨_,rfl⟩
   rw [hv]
   unfold a3i
   refine D9 (fun i=>(i:Int)) l.length _ rfl (fun i hi=>?_) ?_
   ·unfold a1Y
    rw [if_pos (decide_eq_true (by omega)),w9 _ _ hi]
    simp only [Option.bind_some]
    rw [b3O (hs _ (List.getElem_mem hi)),R5.2 (hall _ (List.getElem_mem hi))]
    simp only [Option.bind_some,Bool.not_true,Bool.false_eq_true,if_false]
    rw [G7 (by omega)]
   ·unfold a1Y
    rw [if_neg (by simp),hv]
    rfl
  rw [hend,b2r]
  simp only [Bool.false_eq_true,if_false]
  cases decide (0≤f∧f≤t∧t≤9007199254740992) with
  | false=>exact ⟨[],2,rfl,rfl,by simp,fun s h=>absurd h List.not_mem_nil⟩
  | true=>
   obtain ⟨r,e1,e2,h3,h4⟩:=b3j hall hl f t
   simp only [Bool.not_true,Bool.false_eq_true,if_false]
   rw [e1,e2]
   exact ⟨r,0,rfl,rfl,by omega,fun s h=>by have:=h4 s h;omega⟩
end Go.Proofs.YtdcafiefjakfeaaGreat.Sh
namespace Go.Proofs.YtdcafiefjakfeaaGreat.Sh
open Go
set_option linter.unusedVariables false
set_option linter.unusedSimpArgs false
theorem ov_one {A:List Record} {f m p q:Int} {e:Bool} {o:List Overlap} (h:OvTo A f m o) (pq:p<q) (hm:∀ z b,(f≤z∧z<m∧2≤(hits A z).length∧allEq (hits A z)=b)↔(p≤z∧z<q∧e=b)):o=[⟨p,q,e⟩]:=by
 have hmem:∀ z b,(∃ x∈o,x.From≤z∧z<x.To∧x.Same=b)↔(p≤z∧z<q∧e=b):=fun z b=>(h.mem z b).trans (hm z b)
 have hin:∀ x∈o,p≤x.From∧x.To≤q∧e=x.Same:=fun x hx=>by
  have hn:=h.ne x hx
  have h1:=(hmem x.From x.Same).1 ⟨x,hx,Int.le_refl _,hn,rfl⟩
  have h2:=(hmem (x.To - 1) x.Same).1 ⟨x,hx,by omega,by omega,rfl⟩
  exact ⟨h1.1,by omega,h1.2.2⟩
 cases o with
 | nil=>
  obtain ⟨x,hx,_⟩:=(hmem p e).2 ⟨Int.le_refl _,pq,rfl⟩
  cases hx
 | cons a o=>
  have ha:=hin a List.mem_cons_self
  have han:=h.ne a List.mem_cons_self
  have hpw:=List.pairwise_cons.1 h.pw
  have ho:o=[]:=by
   cases o with
   | nil=>rfl
   | cons b o=>
    exfalso
    have hb:=hin b (by simp)
    have hbn:=h.ne b (by simp)
    have hab:=hpw.1 b List.mem_cons_self
    have hbo:=(List.pairwise_cons.1 hpw.2).1
    have hlt:a.To<b.From:=by
     rcases Int.lt_or_eq_of_le hab.1 with h1 | h1
     ·exact h1
     ·exact absurd (ha.2.2.symm.trans hb.2.2) (hab.2 h1)
    obtain ⟨y,hy,y1,y2,_⟩:=(hmem a.To e).2 ⟨by omega,by omega,rfl⟩
    rcases List.mem_cons.1 hy with rfl | hy
    ·omega
    ·rcases List.mem_cons.1 hy with rfl | hy
     ·omega
     ·have:=(hbo y hy).1
      omega
  subst ho
  obtain ⟨x,hx,x1,x2,_⟩:=(hmem p e).2 ⟨Int.le_refl _,pq,rfl⟩
  obtain ⟨y,hy,y1,y2,_⟩:=(hmem (q - 1) e).2 ⟨by omega,by omega,rfl⟩
  rcases List.mem_singleton.1 hx with rfl
  rcases List.mem_singleton.1 hy with rfl
  have e1:y.From=p:=by omega
  have e2:y.To=q:=by omega
  cases y
  simp only at e1 e2 ha
  rw [e1,e2,ha.2.2]
theorem b3s {r:Record} (h:RF r) (h1:r.Samples.length=1) (z:Int):a5U r z=if o5 r 0≤z∧z<o5 r 1 then some (o5 r 0,r.Samples.getD 0 0) else none:=by
 unfold a5U
 by_cases hz:o5 r 0≤z∧z<o5 r 1
 ·rw [if_pos hz,b1C h (i:=0) (by omega) hz.1 hz.2]
  rfl
 ·rw [if_neg hz,a7b h (by rw [h1];exact hz)]
  rfl
def a8e:Record:=⟨(⟨(⟨#[65]⟩:ByteArray),(⟨#[66]⟩:ByteArray),ByteArray.empty,(⟨#[72,72,90]⟩:ByteArray)⟩:SourceID),0,0,(⟨1,10⟩:Rate),0,0,0,([1]:List Int)⟩
def a8D:Record:=⟨(⟨(⟨#[65]⟩:ByteArray),(⟨#[66]⟩:ByteArray),ByteArray.empty,(⟨#[72,72,90]⟩:ByteArray)⟩:SourceID),20000000,0,(⟨1,10⟩:Rate),0,0,0,([1]:List Int)⟩
def a8f:Record:=⟨(⟨(⟨#[65]⟩:ByteArray),(⟨#[66]⟩:ByteArray),ByteArray.empty,(⟨#[72,72,90]⟩:ByteArray)⟩:SourceID),0,0,(⟨1,10⟩:Rate),0,0,1,([1]:List Int)⟩
theorem san_rf:RF a8e∧RF a8D∧RF a8f:=⟨R5.1 (by decide),R5.1 (by decide),R5.1 (by decide)⟩
theorem b5q:VS15 [a8e,a8D,a8f]:=by
 obtain ⟨h0,h1,h2⟩:=san_rf
 refine ⟨⟨fun r hr=>?_,fun r hr q hq=>?_⟩,by simp,fun r hr=>?_⟩
 ·simp only [List.mem_cons,List.not_mem_nil,or_false] at hr
  rcases hr with rfl | rfl | rfl
  ·exact h0
  ·exact h1
  ·exact h2
 ·simp only [List.mem_cons,List.not_mem_nil,or_false] at hr hq
  rcases hr with rfl | rfl | rfl <;> rcases hq with rfl | rfl | rfl <;> rfl
 ·simp only [List.mem_cons,List.not_mem_nil,or_false] at hr
  rcases hr with rfl | rfl | rfl <;> simp [a8e,a8D,a8f]
set_option maxRecDepth 100000 in
theorem san_ss:K6 I7 [a8e,a8D,a8f]=[a8e,a8f,a8D]:=by
 have e:K6 I7 [a8e,a8D,a8f]=K6 I7 [a8e,a8f,a8D]:=b4P P9 (fun _ _=>a1v) fun x=>by
  simp only [List.mem_cons,List.not_mem_nil,or_false]
  constructor
  ·rintro (h | h | h) <;> simp [h]
  ·rintro (h | h | h) <;> simp [h]
 rw [e]
 refine b0U P9 (fun _ _=>a1v) (List.pairwise_cons.2 ⟨fun b hb=>?_,List.pairwise_cons.2 ⟨fun b hb=>?_,List.pairwise_singleton _ _⟩⟩)
 ·simp only [List.mem_cons,List.not_mem_nil,or_false] at hb
  rcases hb with rfl | rfl <;> decide
 ·rcases List.mem_singleton.1 hb with rfl
  decide
theorem san_hits (z:Int):(2≤(hits [a8e,a8f,a8D] z).length↔0≤z∧z<10000000)∧(0≤z→z<10000000→allEq (hits [a8e,a8f,a8D] z)=true):=by
 obtain ⟨h0,h1,h2⟩:=san_rf
 have t0:o5 a8e 0=0∧o5 a8e 1=10000000:=by decide
 have t1:o5 a8D 0=20000000∧o5 a8D 1=30000000:=by decide
 have t2:o5 a8f 0=0∧o5 a8f 1=10000000:=by decide
 have e0:=b3s h0 rfl z
 have e1:=b3s h1 rfl z
 have e2:=b3s h2 rfl z
 rw [t0.1,t0.2] at e0
 rw [t1.1,t1.2] at e1
 rw [t2.1,t2.2] at e2
 have g0:a8e.Samples.getD 0 0=1:=rfl
 have g2:a8f.Samples.getD 0 0=1:=rfl
 rw [g0] at e0
 rw [g2] at e2
 unfold hits
 by_cases hz:0≤z∧z<10000000
 ·rw [if_pos hz] at e0 e2
  rw [if_neg (by omega)] at e1
  simp [e0,e1,e2,hz,allEq]
 ·rw [if_neg hz] at e0 e2
  have hz':0≤z→¬ z<10000000:=fun a b=>hz ⟨a,b⟩
  by_cases h3:20000000≤z∧z<30000000
  ·rw [if_pos h3] at e1
   simp [e0,e1,e2]
   omega
  ·rw [if_neg h3] at e1
   simp [e0,e1,e2]
   omega
theorem b3P:a3R=some true:=by
 obtain ⟨g,eg,hg⟩:=gaps_ok b5q (by decide) (f:=0) (t:=30000000) (by decide) (by decide) (by decide)
 obtain ⟨o,eo,ho,_⟩:=b4z b5q (fun r hr=>by have:=b5q.smp r hr;simp only [List.mem_cons,List.not_mem_nil,or_false] at hr;rcases hr with rfl | rfl | rfl <;> decide) (by decide) (f:=0) (t:=30000000) (by decide) (by decide) (by decide)
 have hge:g=[⟨10000000,20000000⟩]:=by
  refine hg.vs.uniq ⟨fun s hs=>?_,List.pairwise_singleton _ _⟩ fun z=>?_
  ·rcases List.mem_singleton.1 hs with rfl;decide
  ·rw [hg.mem,Y5]
   have x0:a6m a8e=⟨0,10000000⟩:=by
    have:o5 a8e 0=0∧o5 a8e 1=10000000:=by decide
    show (⟨o5 a8e 0,o5 a8e 1⟩:Span)=_
    rw [this.1,this.2]
   have x1:a6m a8D=⟨20000000,30000000⟩:=by
    have:o5 a8D 0=20000000∧o5 a8D 1=30000000:=by decide
    show (⟨o5 a8D 0,o5 a8D 1⟩:Span)=_
    rw [this.1,this.2]
   have x2:a6m a8f=⟨0,10000000⟩:=by
    have:o5 a8f 0=0∧o5 a8f 1=10000000:=by decide
    show (⟨o5 a8f 0,o5 a8f 1⟩:Span)=_
    rw [this.1,this.2]
   simp only [List.map_cons,List.map_nil,x0,x1,x2]
   rw [mem_cons,mem_cons,Y5]
   simp only
   omega
 have hoe:o=[⟨0,10000000,true⟩]:=by
  rw [san_ss] at ho
  refine ov_one ho (by decide) fun z b=>?_
  obtain ⟨a1,a2⟩:=san_hits z
  constructor
  ·rintro ⟨b1,b2,b3,b4⟩
   have:=a1.1 b3
   rw [a2 this.1 this.2] at b4
   exact ⟨this.1,this.2,b4⟩
  ·rintro ⟨b1,b2,b3⟩
   exact ⟨b1,by omega,a1.2 ⟨b1,b2⟩,by rw [a2 b1 b2];exact b3⟩
 unfold a3R
 simp only [Option.bind_some]
 have e1:([(⟨(⟨(⟨#[65]⟩:ByteArray),(⟨#[66]⟩:ByteArray),ByteArray.empty,(⟨#[72,72,90]⟩:ByteArray)⟩:SourceID),0,0,(⟨1,10⟩:Rate),0,0,0,([1]:List Int)⟩:Record),(⟨(⟨(⟨#[65]⟩:ByteArray),(⟨#[66]⟩:ByteArray),ByteArray.empty,(⟨#[72,72,90]⟩:ByteArray)⟩:SourceID),20000000,0,(⟨1,10⟩:Rate),0,0,0,([1]:List Int)⟩:Record),(⟨(⟨(⟨#[65]⟩:ByteArray),(⟨#[66]⟩:ByteArray),ByteArray.empty,(⟨#[72,72,90]⟩:ByteArray)⟩:SourceID),0,0,(⟨1,10⟩:Rate),0,0,1,([1]:List Int)⟩:Record)]:List Record)=[a8e,a8D,a8f]:=rfl
 rw [e1,eg,eo,hge,hoe]
 simp only [Option.bind_some]
 rw [b3a _ (by decide)]
 rfl
end Go.Proofs.YtdcafiefjakfeaaGreat.Sh
namespace Go.Proofs.YtdcafiefjakfeaaGreat.Sh
open Go
set_option linter.unusedVariables false
set_option linter.unusedSimpArgs false
structure DOK (d:Dice):Prop where
 a0:0≤d.At
 a1:d.At≤d.L.length
 len:d.L.length≤500
theorem DOK.roll {l:List Int} (h:l.length≤500):DOK ⟨l,0⟩:=⟨Int.le_refl _,by simp,h⟩
theorem b5e (l:List Int):a7J l=some (decide (l.length≤500)):=by
 simp only [a7J,Option.some.injEq,decide_eq_decide];omega
theorem M7 {d:Dice} (hd:DOK d) {n:Int} (h1:1≤n) (h2:n≤9223372036854775807):∃ x d',y9 d n=some (x,d')∧0≤x∧x<n∧DOK d':=by
 obtain ⟨a0,a1,len⟩:=hd
 unfold y9
 by_cases h:(d.L.length:Int)≤d.At
 ·refine ⟨0,d,?_,Int.le_refl _,by omega,a0,a1,len⟩
  simp [h]
 ·have hn:¬ n<1:=by omega
  have hnext:DOK ⟨d.L,w64 (d.At+1)⟩:=by
   rw [y8 (by omega) (by omega)];exact ⟨by simp only;omega,by simp only;omega,len⟩
  rw [if_neg (by simp [h,hn]),ix_at d.L d.At a0 (by omega)]
  simp only [Option.bind]
  rw [b3L _ _ (by omega)]
  simp only [a2q]
  generalize hx:(d.L[d.At.toNat]'(by omega))=x
  have hb:-n<x.tmod n∧x.tmod n<n:=⟨Int.lt_tmod_of_pos x (by omega),Int.tmod_lt_of_pos x (by omega)⟩
  by_cases hneg:x.tmod n<0
  ·simp only [hneg,decide_true,if_true,Option.bind]
   refine ⟨_,_,rfl,?_,?_,hnext⟩ <;> rw [y8 (by omega) (by omega)] <;> omega
  ·simp only [hneg,decide_false,Bool.false_eq_true,if_false]
   exact ⟨_,_,rfl,by omega,by omega,hnext⟩
theorem R9 {d:Dice} (hd:DOK d) {l:List Int} (h1:1≤l.length) (h2:l.length≤1000):∃ x d',F8 d l=some (x,d')∧x∈l∧DOK d':=by
 obtain ⟨x,d',e,x0,x1,hd'⟩:=M7 hd (n:=(l.length:Int)) (by omega) (by omega)
 unfold F8
 rw [e]
 simp only [Option.bind]
 rw [ix_at l x x0 x1]
 exact ⟨_,_,rfl,List.getElem_mem _,hd'⟩
end Go.Proofs.YtdcafiefjakfeaaGreat.Sh
namespace Go.Proofs.YtdcafiefjakfeaaGreat.Sh
open Go
set_option linter.unusedVariables false
set_option linter.unusedSimpArgs false
theorem a5Y {α:Type} {d:Dice} (hd:DOK d) (l:List α) (n:Int) (hn:n=l.length) (h1:1≤l.length) (h2:l.length≤1000) :
  ∃ x d' y,y9 d n=some (x,d')∧ix l x=some y∧y∈l∧DOK d':=by
 obtain ⟨x,d',e,x0,x1,hd'⟩:=M7 hd (n:=n) (by omega) (by omega)
 exact ⟨x,d',_,e,ix_at l x x0 (by omega),List.getElem_mem _,hd'⟩
theorem b3q {d:Dice} (hd:DOK d):∃ s d',a2U d=some (s,d')∧a6q s=true∧DOK d':=by
 unfold a2U
 obtain ⟨x1,d1,y1,e1,g1,m1,hd1⟩:=a5Y hd [(⟨#[71,82]⟩:ByteArray),(⟨#[88]⟩:ByteArray),(⟨#[55,65]⟩:ByteArray)] 3 (by decide) (by decide) (by decide)
 obtain ⟨x2,d2,y2,e2,g2,m2,hd2⟩:=a5Y hd1 [(⟨#[70,85,82]⟩:ByteArray),(⟨#[65]⟩:ByteArray),(⟨#[65,66,67,68,69]⟩:ByteArray),(⟨#[70,85]⟩:ByteArray)] 4 (by decide) (by decide) (by decide)
 obtain ⟨x3,d3,y3,e3,g3,m3,hd3⟩:=a5Y hd2 [(⟨#[]⟩:ByteArray),(⟨#[48,48]⟩:ByteArray),(⟨#[49,48]⟩:ByteArray)] 3 (by decide) (by decide) (by decide)
 obtain ⟨x4,d4,y4,e4,g4,m4,hd4⟩:=a5Y hd3 [(⟨#[72,72,90]⟩:ByteArray),(⟨#[72,72,78]⟩:ByteArray),(⟨#[66,72,90]⟩:ByteArray)] 3 (by decide) (by decide) (by decide)
 rw [e1];simp only [Option.bind]
 rw [g1];simp only
 rw [e2];simp only
 rw [g2];simp only
 rw [e3];simp only
 rw [g3];simp only
 rw [e4];simp only
 rw [g4]
 refine ⟨_,_,rfl,?_,hd4⟩
 have h1:a1s y1 1 2=true:=by
  simp only [List.mem_cons,List.not_mem_nil,or_false] at m1
  rcases m1 with rfl | rfl | rfl <;> decide
 have h2:a1s y2 1 5=true:=by
  simp only [List.mem_cons,List.not_mem_nil,or_false] at m2
  rcases m2 with rfl | rfl | rfl | rfl <;> decide
 have h3:(a1s y3 0 2 && !((y3.size:Int) == 1))=true:=by
  simp only [List.mem_cons,List.not_mem_nil,or_false] at m3
  rcases m3 with rfl | rfl | rfl <;> decide
 have h4:a1s y4 3 3=true:=by
  simp only [List.mem_cons,List.not_mem_nil,or_false] at m4
  rcases m4 with rfl | rfl | rfl <;> decide
 simp only [Bool.and_eq_true] at h3
 simp only [a6q,h1,h2,h3.1,h3.2,h4,Bool.and_self]
structure RG (s:SourceID) (n:Int) (r:Record):Prop where
 src:r.Source=s
 s0:1000000000000≤r.Start
 s1:r.Start≤1000009750000
 f0:0≤r.First
 f1:r.First≤3
 rv:RV r.Rate
 n3:r.Rate.Num≤3
 d3:r.Rate.Den≤3
 e0:0≤r.Error
 e1:r.Error≤500
 r0:0≤r.Run
 r1:r.Run≤1
 q0:0≤r.Seq
 q1:r.Seq≤5
 l0:1≤r.Samples.length
 l1:(r.Samples.length:Int)≤n
 smp:∀ x∈r.Samples,0≤x∧x≤3
theorem RG.rf {s:SourceID} {n:Int} {r:Record} (h:RG s n r) (hs:a6q s=true) (hn:n≤1000):RF r:=by
 have l1:=h.l1
 have l0:=h.l0
 have f0:=h.f0
 have f1:=h.f1
 have s1:=h.s1
 have s0:=h.s0
 have d0:=h.rv.d0
 have d3:=h.d3
 have n0:=h.rv.n0
 have e1:=h.e1
 have r1:=h.r1
 have q1:=h.q1
 have k1:(r.First+r.Samples.length) * (r.Rate.Den * 1000000)≤1003 * 3000000:=Int.mul_le_mul (by omega) (by omega) (by omega) (by omega)
 have k0:0≤(r.First+r.Samples.length) * (r.Rate.Den * 1000000):=Int.mul_nonneg (by omega) (by omega)
 have k2:=Int.ediv_le_self r.Rate.Num k0
 exact ⟨by rw [h.src];exact hs,l0,by omega,f0,by omega,h.e0,by omega,h.r0,by omega,h.q0,by omega,h.rv,by omega,by omega,by omega,b0g.2 fun x hx=>by have:=h.smp x hx;omega⟩
structure RI (n:Int) (s:List Int × Int × List Int × Int):Prop where
 dok:DOK ⟨s.1,s.2.1⟩
 rng:∀ x∈s.2.2.1,0≤x∧x≤3
 i0:0≤s.2.2.2
 i1:s.2.2.2+s.2.2.1.length≤n
 ne:s.2.2.2=0→1≤s.2.2.1.length
theorem New_eq {a b:Int} (a0:1≤a) (a1:a≤4096) (b0:1≤b) (b1:b≤4096):a8M a b=some (⟨a / (Int.gcd a b:Int),b / (Int.gcd a b:Int)⟩,0):=by
 unfold a8M
 rw [a0H,a0H,a7c a0 a1,a7c b0 b1]
 simp only [Option.bind,Bool.not_true,Bool.false_eq_true,if_false]
 rw [a9Z _ _ (by omega) (by omega)]
 have g0:0<Int.gcd a b:=Int.gcd_pos_of_ne_zero_left _ (by omega)
 simp only
 rw [b0E (by omega) (by omega) (by omega),b0E (by omega) (by omega) (by omega)]
theorem b3p {d:Dice} (hd:DOK d) (s:SourceID) {n:Int} (n0:1≤n) (n1:n≤1000):∃ r d',a2T d s n=some (r,d')∧RG s n r∧DOK d':=by
 unfold a2T
 obtain ⟨a,d1,e1,ha,hd1⟩:=R9 hd (l:=[1,2,2,3]) (by decide) (by decide)
 obtain ⟨b,d2,e2,hb,hd2⟩:=R9 hd1 (l:=[1,1,1,3]) (by decide) (by decide)
 obtain ⟨c,d3,e3,c0,c1,hd3⟩:=M7 hd2 (n:=40) (by decide) (by decide)
 obtain ⟨fi,d4,e4,hfi,hd4⟩:=R9 hd3 (l:=[0,0,3]) (by decide) (by decide)
 obtain ⟨er,d5,e5,her,hd5⟩:=R9 hd4 (l:=[0,0,10,500]) (by decide) (by decide)
 obtain ⟨ru,d6,e6,ru0,ru1,hd6⟩:=M7 hd5 (n:=2) (by decide) (by decide)
 obtain ⟨sq,d7,e7,sq0,sq1,hd7⟩:=M7 hd6 (n:=6) (by decide) (by decide)
 obtain ⟨m,d8,e8,m0,m1,hd8⟩:=M7 hd7 (n:=n) n0 (by omega)
 have ha':a=1∨a=2∨a=3:=by simp at ha;omega
 have hb':b=1∨b=3:=by simp at hb;omega
 have hfi':fi=0∨fi=3:=by simp at hfi;omega
 have her':er=0∨er=10∨er=500:=by simp at her;omega
 rw [e1];simp only [Option.bind]
 rw [e2];simp only
 rw [New_eq (by omega) (by omega) (by omega) (by omega)];simp only
 rw [e3];simp only
 rw [e4];simp only
 rw [e5];simp only
 rw [e6];simp only
 rw [e7];simp only
 rw [e8];simp only
 rw [y8 (x:=1+m) (by omega) (by omega),y8 (x:=250000 * c) (by omega) (by omega),y8 (x:=1000000000000+250000 * c) (by omega) (by omega)]
 have hw:=a9D (body:=a1d) (RI n) (fun s=>s.2.2.2.toNat)
  (fun e=>DOK ⟨e.1,e.2.1⟩∧(∀ x∈e.2.2,0≤x∧x≤3)∧1≤e.2.2.length∧(e.2.2.length:Int)≤n) (by
   intro s hs
   obtain ⟨dok,rng,i0,i1,ne⟩:=hs
   by_cases hi:0<s.2.2.2
   ·left
    obtain ⟨x,d',e,x0,x1,hd'⟩:=M7 dok (n:=4) (by decide) (by decide)
    unfold a1d
    rw [if_pos (decide_eq_true hi),e]
    simp only [Option.bind]
    rw [E5 _ _ _ (by simp;omega) (by decide),y8 (by omega) (by omega)]
    refine ⟨_,rfl,⟨hd',?_,by simp only;omega,by simp;omega,fun _=>by simp⟩,by simp only;omega⟩
    intro y hy
    simp only [List.mem_append,List.mem_singleton] at hy
    rcases hy with hy | hy
    ·exact rng y hy
    ·omega
   ·right
    unfold a1d
    rw [if_neg (by simpa using hi)]
    exact ⟨_,rfl,dok,rng,ne (by omega),by simp only;omega⟩)
  (d8.L,d8.At,[],1+m) ⟨hd8,by simp,by simp only;omega,by simp;omega,fun h=>by simp only at h;omega⟩
 obtain ⟨e,he,hde,hr,hl1,hl2⟩:=hw
 rw [he]
 have hrate:RV ⟨a / (Int.gcd a b:Int),b / (Int.gcd a b:Int)⟩∧a / (Int.gcd a b:Int)≤3∧b / (Int.gcd a b:Int)≤3:=by
  rcases ha' with rfl | rfl | rfl <;> rcases hb' with rfl | rfl <;> exact ⟨a2A.1 (by decide),by decide,by decide⟩
 exact ⟨_,_,rfl,⟨rfl,by simp only;omega,by simp only;omega,by simp only;omega,by simp only;omega,hrate.1,hrate.2.1,hrate.2.2,by simp only;omega,by simp only;omega,ru0,by simp only;omega,sq0,by simp only;omega,hl1,hl2,hr⟩,hde⟩
end Go.Proofs.YtdcafiefjakfeaaGreat.Sh
namespace Go.Proofs.YtdcafiefjakfeaaGreat.Sh
open Go
set_option linter.unusedVariables false
set_option linter.unusedSimpArgs false
structure RQ (s:SourceID) (n:Int) (r:Record):Prop where
 src:r.Source=s
 s0:1000000000000≤r.Start
 s1:r.Start≤1000009750000
 f0:0≤r.First
 f1:r.First≤3
 rv:RV r.Rate
 n3:r.Rate.Num≤3
 d3:r.Rate.Den≤3
 e0:0≤r.Error
 e1:r.Error≤500
 r0:0≤r.Run
 r1:r.Run≤1
 q0:0≤r.Seq
 q1:r.Seq≤9
 l0:1≤r.Samples.length
 l1:(r.Samples.length:Int)≤n
 smp:∀ x∈r.Samples,0≤x∧x≤3
theorem RG.rq {s:SourceID} {n:Int} {r:Record} (h:RG s n r):RQ s n r:=⟨h.src,h.s0,h.s1,h.f0,h.f1,h.rv,h.n3,h.d3,h.e0,h.e1,h.r0,h.r1,h.q0,by have:=h.q1;omega,h.l0,h.l1,h.smp⟩
theorem RQ.end_ {s:SourceID} {n:Int} {r:Record} (h:RQ s n r) (hn:n≤1000):0≤(r.First+r.Samples.length) * (r.Rate.Den * 1000000) / r.Rate.Num∧(r.First+r.Samples.length) * (r.Rate.Den * 1000000) / r.Rate.Num≤(3+n) * 3000000:=by
 have l1:=h.l1;have l0:=h.l0;have f0:=h.f0;have f1:=h.f1;have d0:=h.rv.d0;have d3:=h.d3;have n0:=h.rv.n0
 have k1:(r.First+r.Samples.length) * (r.Rate.Den * 1000000)≤(3+n) * 3000000:=Int.mul_le_mul (by omega) (by omega) (by omega) (by omega)
 have k0:0≤(r.First+r.Samples.length) * (r.Rate.Den * 1000000):=Int.mul_nonneg (by omega) (by omega)
 have k2:=Int.ediv_le_self r.Rate.Num k0
 exact ⟨Int.ediv_nonneg k0 (by omega),by omega⟩
theorem RQ.rf {s:SourceID} {n:Int} {r:Record} (h:RQ s n r) (hs:a6q s=true) (hn:n≤1000):RF r:=by
 have l1:=h.l1;have l0:=h.l0;have f0:=h.f0;have f1:=h.f1;have s1:=h.s1;have s0:=h.s0
 have e1:=h.e1;have r1:=h.r1;have q1:=h.q1
 have k:=h.end_ hn
 exact ⟨by rw [h.src];exact hs,l0,by omega,f0,by omega,h.e0,by omega,h.r0,by omega,h.q0,by omega,h.rv,by omega,by omega,by omega,b0g.2 fun x hx=>by have:=h.smp x hx;omega⟩
theorem b2A {d:Dice} (hd:DOK d) {n:Int} (n0:0≤n) (n1:n≤50):∃ l d' s,a2r d n=some (l,d')∧a6q s=true∧(∀ r∈l,RQ s 6 r)∧(l.length:Int)≤n∧DOK d':=by
 unfold a2r
 obtain ⟨s,d1,e1,hs,hd1⟩:=b3q hd
 obtain ⟨k,d2,e2,k0,k1,hd2⟩:=M7 hd1 (n:=n+1) (by omega) (by omega)
 rw [e1];simp only [Option.bind_some]
 rw [y8 (by omega) (by omega),e2]
 simp only [Option.bind_some]
 obtain ⟨e,he,hde,hl,hn⟩:=a4d (b1:=a0E (s,d1))
  (fun m st=>DOK ⟨st.1,st.2.1⟩∧(∀ r∈st.2.2.1,RQ s 6 r)∧0≤st.2.2.2∧st.2.2.2+st.2.2.1.length≤n∧m=st.2.2.2.toNat)
  (fun e=>DOK ⟨e.1,e.2.1⟩∧(∀ r∈e.2.2,RQ s 6 r)∧(e.2.2.length:Int)≤n) (by
   rintro m ⟨L,At,out,i⟩ ⟨dok,hr,i0,i1,hm⟩
   simp only at dok hr i0 i1 hm
   by_cases hi:0<i
   ·left
    have j1:∀ (L':List Int) (At':Int) (r:Record),DOK ⟨L',At'⟩→RQ s 6 r→∃ st' n',X5 (L,At,out,i) L' At' r.Source.Network r.Source.Station r.Source.Location r.Source.Channel r.Start r.First r.Rate.Num r.Rate.Den r.Error r.Run r.Seq r.Samples=some (.inl st')∧(DOK ⟨st'.1,st'.2.1⟩∧(∀ r∈st'.2.2.1,RQ s 6 r)∧0≤st'.2.2.2∧st'.2.2.2+st'.2.2.1.length≤n∧n'=st'.2.2.2.toNat)∧n'<m:=by
     intro L' At' r hd' hq
     unfold X5
     simp only
     rw [E5 _ _ _ (by simp;omega) (by decide),y8 (x:=i - 1) (by omega) (by omega)]
     refine ⟨_,(i - 1).toNat,rfl,⟨hd',fun q hq'=>?_,by simp only;omega,by simp;omega,rfl⟩,by omega⟩
     rcases List.mem_append.1 hq' with hq' | hq'
     ·exact hr q hq'
     ·rcases List.mem_singleton.1 hq' with rfl;exact hq
    obtain ⟨r,d3,e3,hrg,hd3⟩:=b3p dok s (n:=6) (by decide) (by decide)
    unfold a0E
    simp only
    rw [if_pos (decide_eq_true hi),e3]
    simp only [Option.bind_some]
    by_cases hol:0<out.length
    ·obtain ⟨z,d4,e4,z0,z1,hd4⟩:=M7 hd3 (n:=5) (by decide) (by decide)
     rw [if_pos (decide_eq_true (by omega)),e4]
     simp only [Option.bind_some]
     by_cases hz:(z == 0)=true
     ·rw [if_pos hz]
      obtain ⟨x,d5,y,e5,g5,m5,hd5⟩:=a5Y (d:=⟨d4.L,d4.At⟩) hd4 out (out.length:Int) rfl (by omega) (by omega)
      have hy:=hr y m5
      rw [e5]
      simp only [Option.bind_some]
      rw [g5]
      simp only [Option.bind_some]
      obtain ⟨q,d6,e6,mq,hd6⟩:=R9 hd5 (l:=[y.Seq,9]) (by simp) (by simp)
      rw [e6]
      simp only [Option.bind_some]
      have hq:0≤q∧q≤9:=by
       have a1:=hy.q0;have a2:=hy.q1
       simp only [List.mem_cons,List.not_mem_nil,or_false] at mq
       omega
      exact j1 d6.L d6.At ⟨y.Source,y.Start,y.First,y.Rate,y.Error,y.Run,q,y.Samples⟩ hd6 ⟨hy.src,hy.s0,hy.s1,hy.f0,hy.f1,hy.rv,hy.n3,hy.d3,hy.e0,hy.e1,hy.r0,hy.r1,hq.1,hq.2,hy.l0,hy.l1,hy.smp⟩
     ·rw [if_neg hz]
      exact j1 d4.L d4.At r hd4 hrg.rq
    ·rw [if_neg (by simpa using hol)]
     simp only [Option.bind_some,Bool.false_eq_true,if_false]
     exact j1 d3.L d3.At r hd3 hrg.rq
   ·right
    unfold a0E
    simp only
    rw [if_neg (by simpa using hi)]
    exact ⟨_,rfl,dok,hr,by simp only;omega⟩) k.toNat (d2.L,d2.At,[],k) ⟨hd2,by simp,k0,by simp;omega,rfl⟩
 rw [he]
 exact ⟨_,_,s,rfl,hs,hl,hn,hde⟩
end Go.Proofs.YtdcafiefjakfeaaGreat.Sh
namespace Go.Proofs.YtdcafiefjakfeaaGreat.Sh
open Go
set_option linter.unusedVariables false
set_option linter.unusedSimpArgs false
theorem vs_of {l:List Record} {s:SourceID} (hs:a6q s=true) (hq:∀ r∈l,RQ s 6 r) (hl:l.length≤50):VS15 l:=
 ⟨⟨fun r hr=>(hq r hr).rf hs (by decide),fun r hr q hq'=>(hq r hr).src.trans (hq q hq').src.symm⟩,by omega,fun r hr=>by have:=(hq r hr).l1;omega⟩
theorem comp_sb {l m:List Record} (h:VL l) (hc:CompOf l m) {K:Nat} (hq:∀ r∈l,r.Start≤8000000000000000∧r.First≤900∧r.Samples.length≤K) (hK:K≤100) (hn:K * ((K+1) * l.length)≤60000) :
  (∀ r∈m,SB r)∧a7T m≤60000∧m.length≤(K+1) * l.length:=by
 have hml:m.length≤(K+1) * l.length:=by
  rw [hc.perm.length_eq]
  have h1:=a0D (Q7 (K6 I7 l)) (K+1) (K6 I7 l) fun x hx=>by
   have hx:=a0n.1 hx
   have h1:=(a0c (K6 I7 l) (h.rf x hx)).2.2
   have h2:=(hq x hx).2.2
   unfold Q7 a1o
   rw [List.length_map];omega
  have h2:=Nat.mul_le_mul_left (K+1) (a0T I7 l)
  omega
 have hp:∀ r∈m,SB r∧r.Samples.length≤K:=fun r hr=>by
  obtain ⟨q,hqm,a,b,h1,h2,rfl,_⟩:=hc.mem h hr
  obtain ⟨g1,g2,g3⟩:=hq q hqm
  have e:=b0k q a b h2
  exact ⟨⟨(h.rf q hqm).sub h1 h2,g1,by show q.First+(a:Int)≤1000;omega⟩,by omega⟩
 refine ⟨fun r hr=>(hp r hr).1,?_,hml⟩
 unfold a7T
 have h1:=a0D (fun r:Record=>r.Samples) K m fun r hr=>(hp r hr).2
 have h2:=Nat.mul_le_mul_left K hml
 omega
end Go.Proofs.YtdcafiefjakfeaaGreat.Sh
namespace Go.Proofs.YtdcafiefjakfeaaGreat.Sh
open Go
set_option linter.unusedVariables false
set_option linter.unusedSimpArgs false
def partS (w:Record) (a b:Nat) (k:Int):Record:=⟨w.Source,w.Start,w.First+a,w.Rate,w.Error,w.Run,k,(w.Samples.take b).drop a⟩
theorem RF.part {w:Record} (h:RF w) {a b:Nat} (hab:a<b) (hb:b≤w.Samples.length) {k:Int} (k0:0≤k) (k1:k≤1073741824):RF (partS w a b k):=by
 have hs:=h.sub hab hb
 exact ⟨hs.src,hs.l0,hs.l1,hs.f0,hs.f1,hs.e0,hs.e1,hs.r0,hs.r1,k0,k1,hs.rv,hs.s0,hs.s1,hs.te,hs.smp⟩
structure Cut (w:Record) (c:Nat→Nat) (i:Nat) (P:List Record):Prop where
 z:c 0=0
 st:∀ k,k<P.length→c k<c (k+1)
 e:c P.length=i
 le:i≤w.Samples.length
 at_:∀ k (h:k<P.length),P[k]=partS w (c k) (c (k+1)) k
theorem Cut.mono {w:Record} {c:Nat→Nat} {i:Nat} {P:List Record} (h:Cut w c i P):∀ {j k:Nat},j≤k→k≤P.length→c j≤c k:=by
 intro j k hjk
 induction k with
 | zero=>intro _;rw [show j=0 by omega];exact Nat.le_refl _
 | succ k ih=>
  intro hk
  by_cases e:j=k+1
  ·subst e;exact Nat.le_refl _
  ·have:=ih (by omega) (by omega)
   have:=h.st k (by omega)
   omega
theorem Cut.len {w:Record} {c:Nat→Nat} {i:Nat} {P:List Record} (h:Cut w c i P):∀ k,k≤P.length→k≤c k
 | 0,_=>Nat.zero_le _
 | k+1,hk=>by
  have:=h.len k (by omega)
  have:=h.st k (by omega)
  omega
structure GW (s:SourceID) (w:Record):Prop where
 rf:RF w
 src:w.Source=s
 st:w.Start=1000000000000
 fi:w.First=0
 nm:1≤w.Rate.Num∧w.Rate.Num≤4
 dn:w.Rate.Den=1
 er:w.Error=0
 rn:w.Run=0
 sq:w.Seq=0
 len:10≤w.Samples.length∧w.Samples.length≤24
 smp:∀ x∈w.Samples,-4≤x∧x≤4
end Go.Proofs.YtdcafiefjakfeaaGreat.Sh
namespace Go.Proofs.YtdcafiefjakfeaaGreat.Sh
open Go
set_option linter.unusedVariables false
set_option linter.unusedSimpArgs false
theorem sub_all (r:Record):a7q r 0 r.Samples.length=r:=by
 obtain ⟨a,b,c,d,e,f,g,h⟩:=r
 simp [a7q]
theorem whole_ok {l m:List Record} (hv:VS15 l) (hc:CompOf l m) (hd:l.Pairwise (fun a b=>o5 a a.Samples.length≤o5 b 0)):m=l:=by
 have hlt:∀ {r:Record},RF r→o5 r 0<o5 r r.Samples.length:=fun h=>h.lt (by have:=h.l0;omega)
 have hasc:l.Pairwise (fun a b=>I7 a b<0):=by
  rw [List.pairwise_iff_getElem] at hd ⊢
  intro i j hi hj hij
  have h1:=hd i j hi hj hij
  have hi':=hv.rf _ (List.getElem_mem hi)
  have hj':=hv.rf _ (List.getElem_mem hj)
  have h2:=hlt hi'
  exact cmpR_beg hi' hj' (hv.src _ (List.getElem_mem hi) _ (List.getElem_mem hj)) (by omega)
 have hss:=b0U P9 (fun _ _=>a1v) hasc
 refine hc.eq (fun r=>[(0,r.Samples.length)]) hv.toVL (fun r hr=>?_) ?_ (hasc.imp fun h=>Int.le_of_lt h)
 ·have hr:=a0n.1 hr
  have hR:=hv.rf r hr
  have hk:∀ i,i<r.Samples.length→keepR (K6 I7 l) r i=true:=fun i hi=>by
   rw [keep_iff hv.toVL hr]
   intro q hq hb y h1 h2 h3
   have g1:=hR.mono (i:=0) (j:=(i:Int)) (by omega)
   have g2:=hR.mono (i:=(i:Int)+1) (j:=(r.Samples.length:Int)) (by omega)
   obtain ⟨a,ha,ea⟩:=List.mem_iff_getElem.1 hr
   obtain ⟨b,hb',eb⟩:=List.mem_iff_getElem.1 hq
   rw [List.pairwise_iff_getElem] at hd
   rcases Nat.lt_trichotomy a b with hab | hab | hab
   ·have:=hd a b ha hb' hab
    rw [ea,eb] at this
    omega
   ·subst hab
    rw [ea] at eb
    subst eb
    have:=b4f.refl r
    omega
   ·have:=hd b a hb' ha hab
    rw [ea,eb] at this
    omega
  refine ⟨fun p hp=>?_,List.pairwise_singleton _ _,fun i hi _=>⟨(0,r.Samples.length),List.mem_cons_self,Nat.zero_le _,hi⟩⟩
  rcases List.mem_singleton.1 hp with rfl
  exact ⟨by have:=hR.l0;simp only;omega,Nat.le_refl _,fun i _ hi=>hk i hi,.inl rfl⟩
 ·rw [hss]
  have:l.flatMap (fun r=>a1o r [(0,r.Samples.length)])=l:=by
   have e:∀ k:List Record,k.flatMap (fun r=>a1o r [(0,r.Samples.length)])=k:=fun k=>by
    induction k with
    | nil=>rfl
    | cons a k ih=>rw [List.flatMap_cons,ih];simp [a1o,sub_all]
   exact e l
  rw [this]
end Go.Proofs.YtdcafiefjakfeaaGreat.Sh
namespace Go.Proofs.YtdcafiefjakfeaaGreat.Sh
open Go
set_option linter.unusedVariables false
set_option linter.unusedSimpArgs false
theorem Cut.lt {w:Record} {c:Nat→Nat} {i:Nat} {P:List Record} (h:Cut w c i P) {j k:Nat} (hj:j<k) (hk:k≤P.length):c j<c k:=by
 have h1:=h.st j (by omega)
 have h2:=h.mono (j:=j+1) (k:=k) (by omega) hk
 omega
theorem a8q {S:List Segment} (hl:S.length≤1000000) (h:∀ s∈S,s.Samples.length≤1000000000):a0o S S=some true:=by
 unfold a0o
 rw [if_neg (by simp)]
 refine D9 (fun i=>(i:Int)) S.length _ rfl (fun i hi=>?_) ?_
 ·unfold a2l
  rw [if_pos (decide_eq_true (by omega)),w9 _ _ hi]
  simp only [Option.bind_some,bne_self_eq_false,Bool.false_eq_true,if_false,beq_self_eq_true,Bool.and_self,Bool.not_true]
  rw [b2I _ _ (h _ (List.getElem_mem hi)),decide_eq_true rfl]
  simp only [Option.bind_some,Bool.not_true,Bool.false_eq_true,if_false]
  rw [G7 (by omega)]
 ·unfold a2l
  rw [if_neg (by simp)]
  rfl
structure CutP (s:SourceID) (w:Record) (P:List Record):Prop where
 vs:VS15 P
 pw:P.Pairwise (fun a b=>o5 a a.Samples.length≤o5 b 0)
 mem:∀ x,Mem (P.map a6m) x↔Mem [a6m w] x
 sm:∀ r∈P,r.Start≤8000000000000000∧r.First≤900∧r.Samples.length≤24
 len:P.length≤24
theorem CutP.asc {s:SourceID} {w:Record} {P:List Record} (h:CutP s w P) {Q:List Record} (hQ:Q.Sublist P):Q.Pairwise (fun a b=>o5 a a.Samples.length≤o5 b 0):=h.pw.sublist hQ
theorem CutP.sub {s:SourceID} {w:Record} {P Q:List Record} (h:CutP s w P) (hQ:∀ r∈Q,r∈P) (hl:Q.length≤100):VS15 Q:=⟨h.vs.toVL.sub hQ,hl,fun r hr=>h.vs.smp r (hQ r hr)⟩
theorem CutP.segs {s:SourceID} {w:Record} {P Q l:List Record} (h:CutP s w P) (hQ:Q.Sublist P) (hl:∀ r,r∈l↔r∈Q) (hlen:l.length≤100):M8 l 0=some ((a4s 0 Q).1,0):=by
 have hQl:Q.length≤24:=by have:=hQ.length_le;have:=h.len;omega
 have vQ:VS15 Q:=h.sub (fun r hr=>hQ.subset hr) (by omega)
 have vl:VS15 l:=h.sub (fun r hr=>hQ.subset ((hl r).1 hr)) hlen
 obtain ⟨m,em,-,hm⟩:=b3l vl
 obtain ⟨q,eq,-,hq⟩:=b3l vQ
 have e1:q=Q:=whole_ok vQ hq (h.asc hQ)
 have e2:m=q:=hm.uniq hq (b4P P9 (fun _ _=>a1v) hl)
 have hsb:(∀ r∈q,SB r)∧a7T q≤60000∧q.length≤(24+1) * Q.length:=comp_sb vQ.toVL hq (K:=24) (fun r hr=>h.sm r (hQ.subset hr)) (by decide) (by omega)
 obtain ⟨a,b,c⟩:=hsb
 subst e2
 rw [b4L em a b (by omega) (by decide) (by decide),e1]
end Go.Proofs.YtdcafiefjakfeaaGreat.Sh
namespace Go.Proofs.YtdcafiefjakfeaaGreat.Sh
open Go
set_option linter.unusedVariables false
set_option linter.unusedSimpArgs false
theorem b4x {d:Dice} (hd:DOK d) {r:Record} (h:RSm r) (hl:r.Samples.length≤1000):∃ x d',a1c d r=some (x,d')∧RSm x∧x.Samples.length≤r.Samples.length+1∧DOK d':=by
 obtain ⟨n,d1,e1,_,_,hd1⟩:=M7 hd (n:=10) (by decide) (by decide)
 have sm:∀ (st:ByteArray) (a b c d e f g:Int) (l:List Int),st.size≤9223372036854775807→l.length≤10000→RSm ⟨⟨r.Source.Network,st,r.Source.Location,r.Source.Channel⟩,a,b,⟨c,d⟩,e,f,g,l⟩:=
  fun st _ _ _ _ _ _ _ l hst hl=>⟨⟨h.src.n,hst,h.src.l,h.src.c⟩,by simp only;omega⟩
 unfold a1c
 rw [E5 _ _ _ (by simp;omega) (by decide),e1]
 simp only [Option.bind,List.nil_append]
 cases c0:(n == 0) with
 | true=>exact ⟨_,_,rfl,sm _ _ _ _ _ _ _ _ _ (by decide) (by omega),by simp only;omega,hd1⟩
 | false=>
  simp only [Bool.false_eq_true,if_false]
  cases c1:(n == 1) with
  | true=>
   obtain ⟨x,d2,e2,_,hd2⟩:=R9 hd1 (l:=[(-1),0,9007199254740992,9007199254740993]) (by decide) (by decide)
   simp only [if_true];rw [e2]
   exact ⟨_,_,rfl,sm _ _ _ _ _ _ _ _ _ h.src.s (by omega),by simp only;omega,hd2⟩
  | false=>
   simp only [Bool.false_eq_true,if_false]
   cases c2:(n == 2) with
   | true=>
    obtain ⟨x,d2,e2,_,hd2⟩:=R9 hd1 (l:=[(-1),16777213,16777216]) (by decide) (by decide)
    simp only [if_true];rw [e2]
    exact ⟨_,_,rfl,sm _ _ _ _ _ _ _ _ _ h.src.s (by omega),by simp only;omega,hd2⟩
   | false=>
    simp only [Bool.false_eq_true,if_false]
    cases c3:(n == 3) with
    | true=>
     obtain ⟨x,d2,e2,_,hd2⟩:=R9 hd1 (l:=[0,2,4097]) (by decide) (by decide)
     simp only [if_true];rw [e2]
     exact ⟨_,_,rfl,sm _ _ _ _ _ _ _ _ _ h.src.s (by omega),by simp only;omega,hd2⟩
    | false=>
     simp only [Bool.false_eq_true,if_false]
     cases c4:(n == 4) with
     | true=>
      obtain ⟨x,d2,e2,_,hd2⟩:=R9 hd1 (l:=[(-1),1099511627776,1099511627777]) (by decide) (by decide)
      simp only [if_true];rw [e2]
      exact ⟨_,_,rfl,sm _ _ _ _ _ _ _ _ _ h.src.s (by omega),by simp only;omega,hd2⟩
     | false=>
      simp only [Bool.false_eq_true,if_false]
      cases c5:(n == 5) with
      | true=>
       obtain ⟨x,d2,e2,_,hd2⟩:=R9 hd1 (l:=[(-1),65535,65536]) (by decide) (by decide)
       simp only [if_true];rw [e2]
       exact ⟨_,_,rfl,sm _ _ _ _ _ _ _ _ _ h.src.s (by omega),by simp only;omega,hd2⟩
      | false=>
       simp only [Bool.false_eq_true,if_false]
       cases c6:(n == 6) with
       | true=>
        obtain ⟨x,d2,e2,_,hd2⟩:=R9 hd1 (l:=[(-1),1073741824,1073741825]) (by decide) (by decide)
        simp only [if_true];rw [e2]
        exact ⟨_,_,rfl,sm _ _ _ _ _ _ _ _ _ h.src.s (by omega),by simp only;omega,hd2⟩
       | false=>
        simp only [Bool.false_eq_true,if_false]
        cases c7:(n == 7) with
        | true=>
         obtain ⟨x,d2,e2,_,hd2⟩:=R9 hd1 (l:=[1073741823,1073741824,(-1073741824)]) (by decide) (by decide)
         simp only [if_true];rw [e2]
         simp only
         rw [E5 _ _ _ (by simp;omega) (by decide)]
         exact ⟨_,_,rfl,sm _ _ _ _ _ _ _ _ _ h.src.s (by simp;omega),by simp,hd2⟩
        | false=>
         simp only [Bool.false_eq_true,if_false]
         cases c8:(n == 8) with
         | true=>exact ⟨_,_,rfl,sm _ _ _ _ _ _ _ _ _ h.src.s (by simp),by simp,hd1⟩
         | false=>exact ⟨_,_,rfl,sm _ _ _ _ _ _ _ _ _ h.src.s (by omega),by simp only;omega,hd1⟩
end Go.Proofs.YtdcafiefjakfeaaGreat.Sh
namespace Go.Proofs.YtdcafiefjakfeaaGreat.Sh
open Go
set_option linter.unusedVariables false
set_option linter.unusedSimpArgs false
def WV (n:Int) (l:List Int):Prop:=1≤l.length∧(l.length:Int)≤n∧∀ v∈l,-79≤v∧v≤79
theorem b4Y {d:Dice} (hd:DOK d) {n:Int} (n1:1≤n) (n2:n≤1000):∃ l d',a4e d n=some (l,d')∧WV n l∧DOK d':=by
 unfold a4e
 obtain ⟨m,d1,e1,m0,m1,hd1⟩:=M7 hd (n:=n) n1 (by omega)
 rw [e1];simp only [Option.bind_some]
 rw [y8 (x:=1+m) (by omega) (by omega)]
 obtain ⟨r,e,hr,h1,h2,h3⟩:=a4d (b1:=a2s)
  (fun k s=>DOK ⟨s.1,s.2.1⟩∧(∀ v∈s.2.2.1,-79≤v∧v≤79)∧0≤s.2.2.2.2∧s.2.2.2.2+s.2.2.1.length=1+m∧0≤s.2.2.2.1∧s.2.2.2.1≤6∧k=s.2.2.2.2.toNat)
  (fun r=>DOK ⟨r.1,r.2.1⟩∧(r.2.2.length:Int)=1+m∧(∀ v∈r.2.2,-79≤v∧v≤79)∧True)
  (fun k s ⟨hdk,hs,i0,hi,l0,l6,hk⟩=>by
   obtain ⟨L,At,out,loud,i⟩:=s
   simp only at hdk hs i0 hi l0 l6 hk
   by_cases hpos:0<i
   ·left
    have j2:∀ (L':List Int) (At':Int) (loud' x:Int),DOK ⟨L',At'⟩→0≤loud'→loud'≤6→-79≤x→x≤79→∃ s' n',a0G (L,At,out,loud,i) L' At' loud' x=some (.inl s')∧(DOK ⟨s'.1,s'.2.1⟩∧(∀ v∈s'.2.2.1,-79≤v∧v≤79)∧0≤s'.2.2.2.2∧s'.2.2.2.2+s'.2.2.1.length=1+m∧0≤s'.2.2.2.1∧s'.2.2.2.1≤6∧n'=s'.2.2.2.2.toNat)∧n'<k:=by
     intro L' At' loud' x hd' q0 q1 x0 x1
     unfold a0G
     simp only
     rw [E5 _ _ _ (by simp;omega) (by decide)]
     simp only [Option.bind_some]
     rw [y8 (x:=i - 1) (by omega) (by omega)]
     refine ⟨_,(i - 1).toNat,rfl,⟨hd',fun v hv=>?_,by simp only;omega,by simp;omega,q0,q1,rfl⟩,by omega⟩
     rcases List.mem_append.1 hv with hv | hv
     ·exact hs v hv
     ·rcases List.mem_singleton.1 hv with rfl;exact ⟨x0,x1⟩
    have j1:∀ (L':List Int) (At':Int) (loud':Int),DOK ⟨L',At'⟩→0≤loud'→loud'≤6→∃ s' n',a0F (L,At,out,loud,i) L' At' loud'=some (.inl s')∧(DOK ⟨s'.1,s'.2.1⟩∧(∀ v∈s'.2.2.1,-79≤v∧v≤79)∧0≤s'.2.2.2.2∧s'.2.2.2.2+s'.2.2.1.length=1+m∧0≤s'.2.2.2.1∧s'.2.2.2.1≤6∧n'=s'.2.2.2.2.toNat)∧n'<k:=by
     intro L' At' loud' hd' q0 q1
     unfold a0F
     obtain ⟨x,d2,e2,x0,x1,hd2⟩:=M7 hd' (n:=5) (by decide) (by decide)
     rw [e2];simp only [Option.bind_some]
     rw [y8 (x:=x - 2) (by omega) (by omega)]
     by_cases hl:0<loud'
     ·obtain ⟨y,d3,e3,y0,y1,hd3⟩:=M7 hd2 (n:=60) (by decide) (by decide)
      obtain ⟨z,d4,e4,z0,z1,hd4⟩:=M7 hd3 (n:=2) (by decide) (by decide)
      rw [if_pos (decide_eq_true hl),e3];simp only [Option.bind_some]
      rw [e4];simp only [Option.bind_some]
      rw [y8 (x:=y+20) (by omega) (by omega),y8 (x:=2 * z) (by omega) (by omega),y8 (x:=1 - 2 * z) (by omega) (by omega),y8 (x:=loud' - 1) (by omega) (by omega)]
      have hz:z=0∨z=1:=by omega
      have hprod:w64 ((y+20) * (1 - 2 * z))=y+20∨w64 ((y+20) * (1 - 2 * z))=-(y+20):=by
       rcases hz with rfl | rfl
       ·left;rw [show (y+20) * (1 - 2 * 0)=y+20 by omega,y8 (by omega) (by omega)]
       ·right;rw [show (y+20) * (1 - 2 * 1)=-(y+20) by omega,y8 (by omega) (by omega)]
      exact j2 _ _ _ _ hd4 (by omega) (by omega) (by omega) (by omega)
     ·rw [if_neg (by simpa using hl)]
      exact j2 _ _ _ _ hd2 q0 q1 (by omega) (by omega)
    have fin:∀ {o:Option ((List Int × Int × List Int × Int × Int) ⊕ (List Int × Int × List Int))},(∃ s' n',o=some (.inl s')∧(DOK ⟨s'.1,s'.2.1⟩∧(∀ v∈s'.2.2.1,-79≤v∧v≤79)∧0≤s'.2.2.2.2∧s'.2.2.2.2+s'.2.2.1.length=1+m∧0≤s'.2.2.2.1∧s'.2.2.2.1≤6∧n'=s'.2.2.2.2.toNat)∧n'<k)→∃ s' n',o=some (.inl s')∧(DOK ⟨s'.1,s'.2.1⟩∧(∀ v∈s'.2.2.1,-79≤v∧v≤79)∧0≤s'.2.2.2.2∧s'.2.2.2.2+s'.2.2.1.length=1+m∧0≤s'.2.2.2.1∧s'.2.2.2.1≤6∧n'=s'.2.2.2.2.toNat)∧n'<k:=fun h=>h
    unfold a2s
    simp only
    rw [if_pos (decide_eq_true hpos)]
    by_cases hq:loud=0
    ·obtain ⟨y,d2,e2,y0,y1,hd2⟩:=M7 hdk (n:=7) (by decide) (by decide)
     rw [if_pos (by simpa using hq),e2]
     simp only [Option.bind_some]
     by_cases hy:(y == 0)=true
     ·obtain ⟨z,d3,e3,z0,z1,hd3⟩:=M7 hd2 (n:=6) (by decide) (by decide)
      rw [if_pos hy,e3]
      simp only [Option.bind_some]
      rw [y8 (x:=1+z) (by omega) (by omega)]
      exact j1 _ _ _ hd3 (by omega) (by omega)
     ·rw [if_neg hy]
      exact j1 _ _ _ hd2 l0 l6
    ·rw [if_neg (by simpa using hq)]
     simp only [Option.bind_some,Bool.false_eq_true,if_false]
     exact j1 _ _ _ hdk l0 l6
   ·right
    refine ⟨(L,At,out),?_,hdk,by simp only;omega,hs,trivial⟩
    unfold a2s
    simp only
    rw [if_neg (by simpa using hpos)]) (1+m).toNat (d1.L,d1.At,[],0,1+m) ⟨hd1,by simp,by simp only;omega,by simp,by simp,by simp,rfl⟩
 rw [e]
 exact ⟨_,_,rfl,⟨by omega,by omega,h2⟩,hr⟩
theorem b2P {d:Dice} (hd:DOK d) {n:Int} (n1:1≤n) (n2:n≤1000):∃ g d',Y4 d n=some (g,d')∧(g.Samples.length:Int)≤n∧DOK d':=by
 unfold Y4
 obtain ⟨x1,d1,e1,_,_,hd1⟩:=M7 hd (n:=3000000) (by decide) (by decide)
 obtain ⟨x2,d2,e2,_,hd2⟩:=R9 hd1 (l:=[0,0,5]) (by decide) (by decide)
 obtain ⟨x3,d3,e3,_,hd3⟩:=R9 hd2 (l:=[1,4,20,3]) (by decide) (by decide)
 obtain ⟨x4,d4,e4,_,hd4⟩:=R9 hd3 (l:=[0,10,2000000]) (by decide) (by decide)
 obtain ⟨l,d5,e5,hw,hd5⟩:=b4Y hd4 n1 n2
 rw [e1];simp only [Option.bind_some]
 rw [e2];simp only [Option.bind_some]
 rw [e3];simp only [Option.bind_some]
 rw [e4];simp only [Option.bind_some]
 rw [e5]
 exact ⟨_,d5,rfl,hw.2.1,hd5⟩
end Go.Proofs.YtdcafiefjakfeaaGreat.Sh
namespace Go.Proofs.YtdcafiefjakfeaaGreat.Sh
open Go
set_option linter.unusedVariables false
set_option linter.unusedSimpArgs false
theorem b3C {S:List Overlap} (hl:S.length≤1000000):a1P S S=some true:=by
 unfold a1P
 rw [if_neg (by simp)]
 refine D9 (fun i=>(i:Int)) S.length _ rfl (fun i hi=>?_) ?_
 ·unfold a2j
  rw [if_pos (decide_eq_true (by omega)),w9 _ _ hi]
  simp only [Option.bind_some,beq_self_eq_true,Bool.and_self,Bool.not_true,Bool.false_eq_true,if_false]
  rw [G7 (by omega)]
 ·unfold a2j
  rw [if_neg (by simp)]
  rfl
theorem tol_loop {x:List Record} (hx:SmL x) (tol:Int) (sv:List Int × Int × Int) (rv:Int × Dice) (hs:0≤sv.2.2∧sv.2.2≤100) :
  l9 (U3 tol sv x rv) 0=some (.inl (rv.2.L,rv.2.At,sv.2.2+1)):=by
 refine D9 (fun i=>(i:Int)) 3 _ rfl (fun i hi=>?_) ?_
 ·unfold U3
  obtain ⟨n,hn⟩:∃ n,([tol,0,rv.1]:List Int)[i]'(by simpa using hi)=n:=⟨_,rfl⟩
  rw [if_pos (by simp;omega),w9 _ _ (by simpa using hi),hn]
  simp only [Option.bind_some]
  obtain ⟨S,e,e1,e2,h3,h4⟩:=b3b hx n
  rw [e1,e2]
  simp only [Option.bind_some,bne_self_eq_false,Bool.false_eq_true,if_false]
  rw [a8q (by omega) (fun s hs=>by have:s.Samples.length≤65536:=(h4 s hs).l1;omega)]
  simp only [Option.bind_some,Bool.not_true,Bool.false_eq_true,if_false]
  rw [G7 (by omega)]
 ·unfold U3
  rw [if_neg (by simp)]
  rw [y8 (x:=sv.2.2+1) (by omega) (by omega)]
  rfl
theorem win_loop {x:List Record} (hx:SmL x) (f t tol:Int) (sv:List Int × Int × Int) (a b:Int × Dice) (hb:DOK b.2) (hs:0≤sv.2.2∧sv.2.2≤100) :
  ∃ r,l9 (U2 f t tol sv x a b) 0=some r∧∃ d,r=.inl (d.L,d.At,sv.2.2+1)∧DOK d:=by
 obtain ⟨k,d,e1,_,hd⟩:=R9 hb (l:=[1,250000,1000000,1000001]) (by decide) (by decide)
 refine ⟨.inl (d.L,d.At,sv.2.2+1),?_,d,rfl,hd⟩
 refine D9 (fun i=>(i:Int)) 4 _ rfl (fun i hi=>?_) ?_
 ·unfold U2
  obtain ⟨w,hw⟩:∃ w,([(⟨f,t⟩:(Arr2 Int)),(⟨1000000000000,1000015000000⟩:(Arr2 Int)),(⟨(w64 (1000000000000+(w64 (333333 * a.1)))),(w64 (1000000000000+(w64 (333333 * b.1))))⟩:(Arr2 Int)),(⟨0,9007199254740992⟩:(Arr2 Int))]:List (Arr2 Int))[i]'(by simpa using hi)=w:=⟨_,rfl⟩
  rw [if_pos (by simp;omega),w9 _ _ (by simpa using hi),hw]
  simp only [Option.bind_some]
  obtain ⟨g,e,g1,g2,g3⟩:=gaps2 hx w.e0 w.e1
  obtain ⟨o,e',o1,o2,o3⟩:=b6r hx w.e0 w.e1
  obtain ⟨p,p1,p2⟩:=depth2 hx w.e0
  obtain ⟨q,q1,q2⟩:=depth2 hx w.e1
  rw [g1,g2,o1,o2,p1,p2,q1,q2]
  simp only [Option.bind_some,bne_self_eq_false,Bool.false_eq_true,if_false]
  rw [b3a _ (by omega)]
  simp only [Option.bind_some,Bool.not_true,Bool.or_self,Bool.false_eq_true,if_false]
  rw [b3C (by omega)]
  simp only [Option.bind_some,Bool.not_true,Bool.false_eq_true,if_false]
  rw [G7 (by omega)]
 ·unfold U2
  rw [if_neg (by simp),e1]
  simp only [Option.bind_some]
  rw [tol_loop hx _ _ _ hs]
  rfl
theorem seg_loop {x:List Segment} (hx:∀ s∈x,s.Samples.length≤1000000000) (hl:x.length≤10000) (sv:List Int × Int × Int) (b:Int × Dice) (hs:0≤sv.2.2∧sv.2.2≤100) :
  l9 (U5 sv x b) 0=some (.inl (b.2.L,b.2.At,sv.2.2+1)):=by
 refine D9 (fun i=>(i:Int)) x.length _ rfl (fun i hi=>?_) ?_
 ·unfold U5
  have h:=hx _ (List.getElem_mem hi)
  rw [if_pos (decide_eq_true (by omega)),w9 _ _ hi]
  simp only [Option.bind_some]
  obtain ⟨p,e,e1,e2⟩:=span16 h
  rw [e1,e2,b4X h,b3O h]
  simp only [Option.bind_some,beq_self_eq_true,Bool.and_self,Bool.not_true,bne_self_eq_false,Bool.or_self,Bool.false_eq_true,if_false]
  rw [G7 (by omega)]
 ·unfold U5
  rw [if_neg (by simp)]
  rw [y8 (x:=sv.2.2+1) (by omega) (by omega)]
  rfl
theorem b6A {x:List Segment} (hx:∀ s∈x,s.Samples.length≤1000000000) (hl:x.length≤10000) (f t:Int) (sv:List Int × Int × Int) (a b:Int × Dice) (hs:0≤sv.2.2∧sv.2.2≤100) :
  l9 (U4 f t sv x a b) 0=some (.inl (b.2.L,b.2.At,sv.2.2+1)):=by
 refine D9 (fun i=>(i:Int)) 2 _ rfl (fun i hi=>?_) ?_
 ·unfold U4
  obtain ⟨w,hw⟩:∃ w,([(⟨f,t⟩:(Arr2 Int)),(⟨(w64 (1000000000000+(w64 (333333 * a.1)))),(w64 (1000000000000+(w64 (333333 * b.1))))⟩:(Arr2 Int))]:List (Arr2 Int))[i]'(by simpa using hi)=w:=⟨_,rfl⟩
  rw [if_pos (by simp;omega),w9 _ _ (by simpa using hi),hw]
  simp only [Option.bind_some]
  obtain ⟨r,e,e1,e2,h3,h4⟩:=window2 hx hl w.e0 w.e1
  rw [e1,e2]
  simp only [Option.bind_some,bne_self_eq_false,Bool.false_eq_true,if_false]
  rw [a8q (by omega) h4]
  simp only [Option.bind_some,Bool.not_true,Bool.false_eq_true,if_false]
  rw [G7 (by omega)]
 ·unfold U4
  rw [if_neg (by simp),seg_loop hx hl _ _ hs]
  rfl
theorem all_segs {A B C:List Segment} (hA:(∀ s∈A,s.Samples.length≤1000000000)∧A.length≤10000) (hB:(∀ s∈B,s.Samples.length≤1000000000)∧B.length≤10000) (f t:Int) {g1 g2:Segment × Dice} {e:Int}
  (h1:g1.1.Samples.length≤1000000000) (h2:g2.1.Samples.length≤1000000000) (hd:DOK g2.2):l9 (O8 B f t (A,e) g1 g2) (g2.2.L,g2.2.At,0)=some true:=by
 obtain ⟨r,er,hr⟩:=Y3 (body:=O8 B f t (A,e) g1 g2) (fun (d:Dice) i=>(d.L,d.At,i)) 3 (fun i d=>DOK d) (fun r=>r=true) (fun i hi d hd=>by
  unfold O8
  simp only
  have hm:=List.getElem_mem (l:=([A,B,([g1.1,g2.1]:List Segment)]:List (List Segment))) (n:=i) (by simpa using hi)
  obtain ⟨x,hx⟩:∃ x,([A,B,([g1.1,g2.1]:List Segment)]:List (List Segment))[i]'(by simpa using hi)=x:=⟨_,rfl⟩
  rw [hx] at hm
  have hxs:(∀ s∈x,s.Samples.length≤1000000000)∧x.length≤10000:=by
   simp only [List.mem_cons,List.not_mem_nil,or_false] at hm
   rcases hm with rfl | rfl | rfl
   ·exact hA
   ·exact hB
   ·refine ⟨fun s hs=>?_,by simp⟩
    simp only [List.mem_cons,List.not_mem_nil,or_false] at hs
    rcases hs with rfl | rfl
    ·exact h1
    ·exact h2
  rw [if_pos (by simp;omega),w9 _ _ (by simpa using hi),hx]
  simp only [Option.bind_some]
  obtain ⟨k1,d1,e1,_,_,hd1⟩:=M7 hd (n:=20) (by decide) (by decide)
  obtain ⟨k2,d2,e2,_,_,hd2⟩:=M7 hd1 (n:=40) (by decide) (by decide)
  have e1':y9 (⟨d.L,d.At⟩:Dice) 20=some (k1,d1):=e1
  rw [e1']
  simp only [Option.bind_some]
  rw [e2]
  simp only [Option.bind_some]
  rw [b6A hxs.1 hxs.2 _ _ _ _ _ (by simp only;omega)]
  exact ⟨d2,rfl,hd2⟩) (fun d hd=>by
  unfold O8
  simp only
  rw [if_neg (by simp),b3P]
  exact ⟨true,rfl,rfl⟩) g2.2 hd
 rw [er,hr]
theorem b4d {l odd raw:List Record} {segs:List Segment} (hl:SmL l) (ho:SmL odd) (hr:SmL raw) (hs:(∀ s∈segs,s.Samples.length≤1000000000)∧segs.length≤10000) (f t tol:Int) (d0 d:Dice) (hd:DOK d) :
  l9 (O7 raw segs f t tol (l,d0) odd) (d.L,d.At,0)=some true:=by
 obtain ⟨r,er,hr⟩:=Y3 (body:=O7 raw segs f t tol (l,d0) odd) (fun (d:Dice) i=>(d.L,d.At,i)) 3 (fun i d=>DOK d) (fun r=>r=true) (fun i hi d hd=>by
  unfold O7
  simp only
  have hm:=List.getElem_mem (l:=([l,odd,raw]:List (List Record))) (n:=i) (by simpa using hi)
  obtain ⟨x,hx⟩:∃ x,([l,odd,raw]:List (List Record))[i]'(by simpa using hi)=x:=⟨_,rfl⟩
  rw [hx] at hm
  have hxs:SmL x:=by
   simp only [List.mem_cons,List.not_mem_nil,or_false] at hm
   rcases hm with rfl | rfl | rfl
   ·exact hl
   ·exact ho
   ·exact hr
  rw [if_pos (by simp;omega),w9 _ _ (by simpa using hi),hx]
  simp only [Option.bind_some]
  obtain ⟨k1,d1,e1,_,_,hd1⟩:=M7 hd (n:=20) (by decide) (by decide)
  obtain ⟨k2,d2,e2,_,_,hd2⟩:=M7 hd1 (n:=40) (by decide) (by decide)
  have e1':y9 (⟨d.L,d.At⟩:Dice) 20=some (k1,d1):=e1
  rw [e1']
  simp only [Option.bind_some]
  rw [e2]
  simp only [Option.bind_some]
  obtain ⟨r,er,d3,rfl,hd3⟩:=win_loop hxs f t tol (d.L,d.At,(i:Int)) (k1,d1) (k2,d2) hd2 (by simp only;omega)
  rw [er]
  exact ⟨d3,rfl,hd3⟩) (fun d hd=>by
  unfold O7
  simp only
  rw [if_neg (by simp)]
  obtain ⟨S,e,_,e2,h3,h4⟩:=b3b hl 250000
  obtain ⟨g1,d1,e4,k1,hd1⟩:=b2P hd (n:=9) (by decide) (by decide)
  obtain ⟨g2,d2,e5,k2,hd2⟩:=b2P hd1 (n:=9) (by decide) (by decide)
  have e4':Y4 (⟨d.L,d.At⟩:Dice) 9=some (g1,d1):=e4
  rw [e2]
  simp only [Option.bind_some]
  rw [e4']
  simp only [Option.bind_some]
  rw [e5]
  simp only [Option.bind_some]
  rw [all_segs (C:=[]) ⟨fun s hs=>by have:s.Samples.length≤65536:=(h4 s hs).l1;omega,by omega⟩ hs f t (g1:=(g1,d1)) (g2:=(g2,d2)) (by simp only;omega) (by simp only;omega) hd2]
  exact ⟨true,rfl,rfl⟩) d hd
 rw [er,hr]
theorem a5W (t:List Int) (raw:List Record) (segs:List Segment) (f u tol:Int) {P0 P1 P2 P3 P4:Prop} {Q:Record→Prop} (_:P0)
  (hraw:(raw.length:Int)≤140737488355328∧∀ y∈raw,(((y.Source.Network.size:Int)≤9223372036854775807)∧((y.Source.Station.size:Int)≤9223372036854775807)∧((y.Source.Location.size:Int)≤9223372036854775807)∧((y.Source.Channel.size:Int)≤9223372036854775807))∧Q y)
  (_:P1) (_:P2) (_:P3) (_:P4):a2h t raw segs f u tol=some true:=by
 unfold a2h
 rw [b5e]
 simp only [Option.bind_some]
 by_cases hc:t.length≤500∧raw.length≤6∧segs.length≤6
 case neg=>
  rw [if_pos (by simp;omega),b3P];rfl
 obtain ⟨hl,hr6,hs6⟩:=hc
 rw [if_neg (by simp;omega)]
 obtain ⟨r,er,hr⟩:=a2z (body:=V8 t raw segs f u tol) (fun (_:Unit) i=>i) raw.length (fun i _=>∀ j (h:j<raw.length),j<i→raw[j].Samples.length≤20) (fun r=>r=true) (fun i hi a hI=>by
  unfold V8
  rw [if_pos (decide_eq_true (by omega)),w9 _ _ hi]
  simp only [Option.bind_some]
  by_cases h20:raw[i].Samples.length≤20
  ·left
   rw [if_neg (by simp;omega),G7 (by omega)]
   refine ⟨(),rfl,fun j hj hji=>?_⟩
   by_cases e:j=i
   ·subst e;exact h20
   ·exact hI j hj (by omega)
  ·right
   rw [if_pos (decide_eq_true (by omega)),b3P]
   exact ⟨_,rfl,rfl⟩) (fun a hI=>by
  unfold V8
  rw [if_neg (by simp)]
  have hraw2:SmL raw:=⟨fun r hr=>by
   obtain ⟨j,hj,rfl⟩:=List.mem_iff_getElem.1 hr
   have h1:=(hraw.2 _ hr).1
   have h2:=hI j hj hj
   exact ⟨⟨by omega,by omega,by omega,by omega⟩,by omega⟩,by omega,fun r hr=>by
   obtain ⟨j,hj,rfl⟩:=List.mem_iff_getElem.1 hr
   have:=hI j hj hj
   omega⟩
  obtain ⟨r,er,hr⟩:=a2z (body:=V9 t raw segs f u tol) (fun (_:Unit) i=>i) segs.length (fun i _=>∀ j (h:j<segs.length),j<i→segs[j].Samples.length≤60) (fun r=>r=true) (fun i hi a hI=>by
   unfold V9
   rw [if_pos (decide_eq_true (by omega)),w9 _ _ hi]
   simp only [Option.bind_some]
   by_cases h20:segs[i].Samples.length≤60
   ·left
    rw [if_neg (by simp;omega),G7 (by omega)]
    refine ⟨(),rfl,fun j hj hji=>?_⟩
    by_cases e:j=i
    ·subst e;exact h20
    ·exact hI j hj (by omega)
   ·right
    rw [if_pos (decide_eq_true (by omega)),b3P]
    exact ⟨_,rfl,rfl⟩) (fun a hI2=>by
   unfold V9
   rw [if_neg (by simp)]
   have hsegs:(∀ s∈segs,s.Samples.length≤1000000000)∧segs.length≤10000:=⟨fun s hs=>by
    obtain ⟨j,hj,rfl⟩:=List.mem_iff_getElem.1 hs
    have:=hI2 j hj hj
    omega,by omega⟩
   simp only [b0B,Option.bind_some]
   obtain ⟨l,d1,s,e1,hs,hq,hln,hd1⟩:=b2A (DOK.roll hl) (n:=5) (by decide) (by decide)
   rw [e1]
   simp only [Option.bind_some]
   rw [E5 _ _ _ (by simp;omega) (by decide)]
   simp only [Option.bind_some,List.nil_append]
   have hv:VS15 l:=vs_of hs hq (by omega)
   have hlS:SmL l:=⟨fun r hr=>(hv.rf r hr).sm,by omega,fun r hr=>by have:=(hq r hr).l1;omega⟩
   by_cases hn:0<l.length
   ·rw [if_pos (decide_eq_true (by omega)),y8 (by omega) (by omega),show (l.length:Int) - 1=((l.length - 1:Nat):Int) by omega,w9 _ _ (show l.length - 1<l.length by omega)]
    simp only [Option.bind_some]
    have hx:=List.getElem_mem (l:=l) (n:=l.length - 1) (by omega)
    obtain ⟨x,d2,e2,hx2,hx3,hd2⟩:=b4x hd1 (r:=l[l.length - 1]) (hlS.rs _ hx) (by have:=hlS.sm _ hx;omega)
    rw [e2]
    simp only [Option.bind_some]
    rw [a5H _ _ _ (by omega) (by omega)]
    simp only [Option.bind_some]
    unfold Q0
    have h6:=(hq _ hx).l1
    have hodd:SmL (l.set ((l.length - 1:Nat):Int).toNat x):=⟨fun r hr=>by
     rcases List.mem_or_eq_of_mem_set hr with hr | rfl
     ·exact hlS.rs r hr
     ·exact hx2,by rw [List.length_set];omega,fun r hr=>by
     rcases List.mem_or_eq_of_mem_set hr with hr | e
     ·exact hlS.sm r hr
     ·have h7:=hx3
      rw [e]
      have h8:l[l.length - 1].Samples.length≤6:=by omega
      omega⟩
    rw [b4d hlS hodd hraw2 hsegs f u tol d1 d2 hd2]
    exact ⟨true,rfl,rfl⟩
   ·rw [if_neg (fun h=>hn (by have:=of_decide_eq_true h;omega))]
    unfold Q0
    rw [b4d hlS hlS hraw2 hsegs f u tol d1 d1 hd1]
    exact ⟨true,rfl,rfl⟩) () (fun j _ h=>by omega)
  rw [er,hr]
  exact ⟨true,rfl,rfl⟩) () (fun j _ h=>by omega)
 rw [er,hr]
end Go.Proofs.YtdcafiefjakfeaaGreat.Sh

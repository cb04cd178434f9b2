/- The plain law: what the plain programs compute, put together in one text. -/
import Derived.Test.YtdcafiefjakfeaaGreatSh
import Derived.Test.YtdcafiefjakfeaaGreatLc1
import Derived.Laws.Strings
namespace Go.Proofs.YtdcafiefjakfeaaGreat.Sh
open Go
set_option linter.unusedVariables false
set_option linter.unusedSimpArgs false
theorem Y3 {σ S β:Type} (st:σ→Int→S) {body:S→Option (S ⊕ β)} (n:Nat) (I:Nat→σ→Prop) (Q:β→Prop)
  (hstep:∀ i,i<n→∀ a,I i a→∃ a',body (st a (i:Int))=some (.inl (st a' ((i+1:Nat):Int)))∧I (i+1) a')
  (hend:∀ a,I n a→∃ r,body (st a (n:Int))=some (.inr r)∧Q r) (a0:σ) (h0:I 0 a0):∃ r,l9 body (st a0 0)=some r∧Q r:=
 a4d (fun k s=>∃ (i:Nat) (a:σ),s=st a (i:Int)∧k+i=n∧I i a) Q (fun k s ⟨i,a,hs,hk,hI⟩=>by
  subst hs
  by_cases hi:i<n
  ·obtain ⟨a',e,h'⟩:=hstep i hi a hI
   exact .inl ⟨_,k - 1,e,⟨i+1,a',rfl,by omega,h'⟩,by omega⟩
  ·have hin:i=n:=by omega
   subst hin
   exact .inr (hend a hI)) n (st a0 0) ⟨0,a0,rfl,by omega,h0⟩
theorem a2z {σ S β:Type} (st:σ→Int→S) {body:S→Option (S ⊕ β)} (n:Nat) (I:Nat→σ→Prop) (Q:β→Prop)
  (hstep:∀ i,i<n→∀ a,I i a→(∃ a',body (st a (i:Int))=some (.inl (st a' ((i+1:Nat):Int)))∧I (i+1) a')∨∃ r,body (st a (i:Int))=some (.inr r)∧Q r)
  (hend:∀ a,I n a→∃ r,body (st a (n:Int))=some (.inr r)∧Q r) (a0:σ) (h0:I 0 a0):∃ r,l9 body (st a0 0)=some r∧Q r:=
 a4d (fun k s=>∃ (i:Nat) (a:σ),s=st a (i:Int)∧k+i=n∧I i a) Q (fun k s ⟨i,a,hs,hk,hI⟩=>by
  subst hs
  by_cases hi:i<n
  ·rcases hstep i hi a hI with ⟨a',e,h'⟩ | h
   ·exact .inl ⟨_,k - 1,e,⟨i+1,a',rfl,by omega,h'⟩,by omega⟩
   ·exact .inr h
  ·have hin:i=n:=by omega
   subst hin
   exact .inr (hend a hI)) n (st a0 0) ⟨0,a0,rfl,by omega,h0⟩
theorem G7 {n:Nat} (h:n≤1000000000000):w64 ((n:Int)+1)=((n+1:Nat):Int):=by rw [y8 (by omega) (by omega)];rfl
def Mem (l:List Span) (x:Int):Prop:=∃ s∈l,s.From≤x∧x<s.To
theorem Mem.nil {x:Int}:¬ Mem [] x:=fun ⟨s,h,_⟩=>by cases h
theorem mem_append {a b:List Span} {x:Int}:Mem (a ++ b) x↔Mem a x∨Mem b x:=by
 constructor
 ·rintro ⟨s,hs,h⟩
  rcases List.mem_append.1 hs with hs | hs
  ·exact .inl ⟨s,hs,h⟩
  ·exact .inr ⟨s,hs,h⟩
 ·rintro (⟨s,hs,h⟩ | ⟨s,hs,h⟩)
  ·exact ⟨s,List.mem_append.2 (.inl hs),h⟩
  ·exact ⟨s,List.mem_append.2 (.inr hs),h⟩
theorem Y5 {s:Span} {x:Int}:Mem [s] x↔s.From≤x∧x<s.To:=by
 constructor
 ·rintro ⟨t,ht,h⟩
  rcases List.mem_singleton.1 ht with rfl
  exact h
 ·exact fun h=>⟨s,by simp,h⟩
theorem mem_cons {s:Span} {l:List Span} {x:Int}:Mem (s :: l) x↔(s.From≤x∧x<s.To)∨Mem l x:=by
 have:=mem_append (a:=[s]) (b:=l) (x:=x)
 rw [Y5] at this
 exact this
theorem mem_perm {a b:List Span} (h:a.Perm b) {x:Int}:Mem a x↔Mem b x:=
 ⟨fun ⟨s,hs,q⟩=>⟨s,h.mem_iff.1 hs,q⟩,fun ⟨s,hs,q⟩=>⟨s,h.mem_iff.2 hs,q⟩⟩
theorem mem_filter {l:List Span} {x:Int}:Mem (l.filter (fun s=>decide (s.From<s.To))) x↔Mem l x:=by
 constructor
 ·rintro ⟨s,hs,q⟩
  exact ⟨s,(List.mem_filter.1 hs).1,q⟩
 ·rintro ⟨s,hs,q⟩
  exact ⟨s,List.mem_filter.2 ⟨hs,decide_eq_true (by omega)⟩,q⟩
structure VS (l:List Span):Prop where
 ne:∀ s∈l,s.From<s.To
 ap:l.Pairwise (fun s t=>s.To<t.From)
theorem VS.nil:VS []:=⟨fun s h=>(by cases h),List.Pairwise.nil⟩
theorem VS.snoc {l:List Span} {t:Span} (h:VS l) (ht:t.From<t.To) (hl:∀ s∈l,s.To<t.From):VS (l ++ [t]):=by
 refine ⟨fun s hs=>?_,List.pairwise_append.2 ⟨h.ap,List.pairwise_singleton _ _,fun s hs u hu=>?_⟩⟩
 ·rcases List.mem_append.1 hs with hs | hs
  ·exact h.ne s hs
  ·rcases List.mem_singleton.1 hs with rfl;exact ht
 ·rcases List.mem_singleton.1 hu with rfl;exact hl s hs
theorem VS.init {l:List Span} {t:Span} (h:VS (l ++ [t])):VS l∧t.From<t.To∧∀ s∈l,s.To<t.From:=by
 have h2:=List.pairwise_append.1 h.ap
 exact ⟨⟨fun s hs=>h.ne s (List.mem_append.2 (.inl hs)),h2.1⟩,h.ne t (by simp),fun s hs=>h2.2.2 s hs t (by simp)⟩
theorem VS.tail {l:List Span} {t:Span} (h:VS (t :: l)):VS l∧t.From<t.To∧∀ s∈l,t.To<s.From:=
 ⟨⟨fun s hs=>h.ne s (List.mem_cons_of_mem _ hs),(List.pairwise_cons.1 h.ap).2⟩,h.ne t (by simp),(List.pairwise_cons.1 h.ap).1⟩
theorem VS.low {l:List Span} {t:Span} (h:VS (t :: l)) {x:Int} (hx:Mem (t :: l) x):t.From≤x:=by
 obtain ⟨h1,h2,h3⟩:=h.tail
 obtain ⟨u,hu,q⟩:=hx
 rcases List.mem_cons.1 hu with rfl | hu
 ·exact q.1
 ·have:=h3 u hu;omega
theorem VS.uniq:∀ {a b:List Span},VS a→VS b→(∀ x,Mem a x↔Mem b x)→a=b
 | [],[],_,_,_=>rfl
 | [],t :: b,_,hb,h=>absurd ((h t.From).2 ⟨t,by simp,Int.le_refl _,hb.tail.2.1⟩) Mem.nil
 | s :: a,[],ha,_,h=>absurd ((h s.From).1 ⟨s,by simp,Int.le_refl _,ha.tail.2.1⟩) Mem.nil
 | s :: a,t :: b,ha,hb,h=>by
  obtain ⟨a1,a2,a3⟩:=ha.tail
  obtain ⟨b1,b2,b3⟩:=hb.tail
  have f1:t.From≤s.From:=hb.low ((h s.From).1 ⟨s,by simp,Int.le_refl _,a2⟩)
  have f2:s.From≤t.From:=ha.low ((h t.From).2 ⟨t,by simp,Int.le_refl _,b2⟩)
  have hto:s.To=t.To:=by
   rcases Int.lt_trichotomy s.To t.To with hlt | heq | hlt
   ·obtain ⟨u,hu,q⟩:=(h s.To).2 ⟨t,by simp,by omega,hlt⟩
    rcases List.mem_cons.1 hu with rfl | hu
    ·omega
    ·have:=a3 u hu;omega
   ·exact heq
   ·obtain ⟨u,hu,q⟩:=(h t.To).1 ⟨s,by simp,by omega,hlt⟩
    rcases List.mem_cons.1 hu with rfl | hu
    ·omega
    ·have:=b3 u hu;omega
  have hst:s=t:=by
   obtain ⟨x,y⟩:=s
   obtain ⟨z,w⟩:=t
   simp only at f1 f2 hto
   rw [hto,show x=z by omega]
  subst hst
  have ih:=VS.uniq a1 b1 (fun x=>by
   constructor
   ·intro hx
    obtain ⟨u,hu,q⟩:=hx
    have hu2:=a3 u hu
    rcases mem_cons.1 ((h x).1 (mem_cons.2 (.inr ⟨u,hu,q⟩))) with q2 | q2
    ·omega
    ·exact q2
   ·intro hx
    obtain ⟨u,hu,q⟩:=hx
    have hu2:=b3 u hu
    rcases mem_cons.1 ((h x).2 (mem_cons.2 (.inr ⟨u,hu,q⟩))) with q2 | q2
    ·omega
    ·exact q2)
  rw [ih]
def a8p (out:List Span) (x:Span):List Span:=
 match out.getLast? with
 | none=>out ++ [x]
 | some t=>if x.From≤t.To then out.dropLast ++ [⟨t.From,max t.To x.To⟩] else out ++ [x]
theorem b0C (x:Span):a8p [] x=[x]:=rfl
theorem a9w (o:List Span) (t x:Span):a8p (o ++ [t]) x=if x.From≤t.To then o ++ [⟨t.From,max t.To x.To⟩] else o ++ [t] ++ [x]:=by
 unfold a8p
 simp
theorem mstep_ok {out:List Span} {x:Span} (hv:VS out) (hx:x.From<x.To) (ho:∀ t∈out,t.From≤x.From):VS (a8p out x)∧(∀ y,Mem (a8p out x) y↔Mem out y∨(x.From≤y∧y<x.To))∧(a8p out x).length≤out.length+1 ∧
  (∀ s∈a8p out x,s.From≤x.From)∧(∀ s∈a8p out x,(s.From=x.From∨∃ t∈out,s.From=t.From)∧(s.To=x.To∨∃ t∈out,s.To=t.To)):=by
 rcases List.eq_nil_or_concat out with rfl | ⟨o,t,rfl⟩
 ·rw [b0C]
  refine ⟨VS.nil.snoc (t:=x) hx (fun s h=>(by cases h)),fun y=>?_,by simp,fun s hs=>?_,fun s hs=>?_⟩
  ·rw [Y5]
   exact ⟨fun h=>.inr h,fun h=>h.elim (fun h=>absurd h Mem.nil) id⟩
  ·rcases List.mem_singleton.1 hs with rfl;exact Int.le_refl _
  ·rcases List.mem_singleton.1 hs with rfl;exact ⟨.inl rfl,.inl rfl⟩
 ·rw [List.concat_eq_append] at *
  obtain ⟨v1,v2,v3⟩:=hv.init
  have ht:=ho t (by simp)
  rw [a9w]
  by_cases hc:x.From≤t.To
  ·rw [if_pos hc]
   refine ⟨v1.snoc (t:=⟨t.From,max t.To x.To⟩) (by simp only;omega) v3,fun y=>?_,by simp,fun s hs=>?_,fun s hs=>?_⟩
   ·rw [mem_append,mem_append,Y5,Y5]
    simp only
    constructor
    ·rintro (h | h)
     ·exact .inl (.inl h)
     ·by_cases hy:y<t.To
      ·exact .inl (.inr ⟨h.1,hy⟩)
      ·exact .inr ⟨by omega,by omega⟩
    ·rintro ((h | h) | h)
     ·exact .inl h
     ·exact .inr ⟨h.1,by omega⟩
     ·exact .inr ⟨by omega,by omega⟩
   ·rcases List.mem_append.1 hs with hs | hs
    ·exact ho s (List.mem_append.2 (.inl hs))
    ·rcases List.mem_singleton.1 hs with rfl;exact ht
   ·rcases List.mem_append.1 hs with hs | hs
    ·exact ⟨.inr ⟨s,List.mem_append.2 (.inl hs),rfl⟩,.inr ⟨s,List.mem_append.2 (.inl hs),rfl⟩⟩
    ·rcases List.mem_singleton.1 hs with rfl
     refine ⟨.inr ⟨t,by simp,rfl⟩,?_⟩
     simp only
     by_cases hm:t.To≤x.To
     ·exact .inl (by omega)
     ·exact .inr ⟨t,by simp,by omega⟩
  ·rw [if_neg hc]
   refine ⟨hv.snoc hx (fun s hs=>?_),fun y=>?_,by simp,fun s hs=>?_,fun s hs=>?_⟩
   ·rcases List.mem_append.1 hs with hs | hs
    ·have:=v3 s hs;omega
    ·rcases List.mem_singleton.1 hs with rfl;omega
   ·rw [mem_append,Y5]
   ·rcases List.mem_append.1 hs with hs | hs
    ·exact ho s hs
    ·rcases List.mem_singleton.1 hs with rfl;exact Int.le_refl _
   ·rcases List.mem_append.1 hs with hs | hs
    ·exact ⟨.inr ⟨s,hs,rfl⟩,.inr ⟨s,hs,rfl⟩⟩
    ·rcases List.mem_singleton.1 hs with rfl;exact ⟨.inl rfl,.inl rfl⟩
theorem a8K {α:Type} (o:List α) (t:α):ix (o ++ [t]) (o.length:Int)=some t:=by
 rw [w9 _ _ (by simp)]
 simp
theorem a5N {α:Type} (o:List α) (t t':α):a3X (o ++ [t]) (o.length:Int) t'=some (o ++ [t']):=by
 rw [a5H _ _ _ (by omega) (by simp;omega)]
 simp
structure MI (srt:List Span) (i:Nat) (out:List Span):Prop where
 vs:VS out
 mem:∀ y,Mem out y↔Mem (srt.take i) y
 ord:∀ t∈out,∀ u∈srt.drop i,t.From≤u.From
 len:out.length≤i
 ends:∀ s∈out,(∃ t∈srt,s.From=t.From)∧(∃ t∈srt,s.To=t.To)
theorem MI.zero {srt:List Span}:MI srt 0 []:=⟨VS.nil,fun y=>by simp,fun t h=>(by cases h),Nat.le_refl _,fun s h=>(by cases h)⟩
theorem MI.step {srt out:List Span} {i:Nat} (hi:i<srt.length) (h:MI srt i out) (hne:∀ s∈srt,s.From<s.To) (hs:srt.Pairwise (fun s t=>s.From≤t.From)):MI srt (i+1) (a8p out srt[i]):=by
 have hx:=hne _ (List.getElem_mem hi)
 have hd:srt.drop i=srt[i] :: srt.drop (i+1):=List.drop_eq_getElem_cons hi
 obtain ⟨h1,h2,h3,h4,h5⟩:=mstep_ok (x:=srt[i]) h.vs hx (fun t ht=>h.ord t ht _ (by rw [hd];exact List.mem_cons_self))
 have hp:=hs.sublist (List.drop_sublist i srt)
 rw [hd] at hp
 have hp1:=(List.pairwise_cons.1 hp).1
 refine ⟨h1,fun y=>?_,fun t ht u hu=>?_,by have:=h.len;omega,fun s hs'=>?_⟩
 ·rw [h2,h.mem,G6 hi,mem_append,Y5]
 ·have:=h4 t ht
  have:=hp1 u hu
  omega
 ·obtain ⟨q1,q2⟩:=h5 s hs'
  refine ⟨?_,?_⟩
  ·rcases q1 with q | ⟨t,ht,q⟩
   ·exact ⟨_,List.getElem_mem hi,q⟩
   ·obtain ⟨u,hu,e⟩:=(h.ends t ht).1
    exact ⟨u,hu,q.trans e⟩
  ·rcases q2 with q | ⟨t,ht,q⟩
   ·exact ⟨_,List.getElem_mem hi,q⟩
   ·obtain ⟨u,hu,e⟩:=(h.ends t ht).2
    exact ⟨u,hu,q.trans e⟩
end Go.Proofs.YtdcafiefjakfeaaGreat.Sh
namespace Go.Proofs.YtdcafiefjakfeaaGreat.Sh
open Go
set_option linter.unusedVariables false
set_option linter.unusedSimpArgs false
theorem sclone (s:List Span) (h:s.length≤1000000):K5 s=some s:=by
 unfold K5
 rw [E5 _ _ _ (by simpa using h) (by decide)]
 rfl
theorem b4M (p:Span→Bool) (f:Span→Option Bool) (hf:∀ x,f x=some (p x)) (l:List Span) (hl:l.length≤1000000) :
  ∃ r,M0 l f=some r∧((r=-1∧∀ s∈l,p s=false)∨∃ i:Nat,∃ h:i<l.length,r=(i:Int)∧p l[i]=true∧∀ s∈l.take i,p s=false):=by
 unfold M0
 refine a2z (fun (_:Unit) i=>i) l.length (fun i _=>∀ s∈l.take i,p s=false) _ (fun i hi a hI=>?_) (fun a hI=>?_) () (by simp)
 ·unfold O3
  rw [if_pos (decide_eq_true (by omega)),w9 _ _ hi]
  simp only [Option.bind_some]
  rw [hf]
  simp only [Option.bind_some]
  cases hp:p l[i] with
  | true=>exact .inr ⟨_,rfl,.inr ⟨i,hi,rfl,hp,hI⟩⟩
  | false=>
   left
   refine ⟨(),by rw [G7 (by omega)];rfl,fun s hs=>?_⟩
   rw [G6 hi] at hs
   rcases List.mem_append.1 hs with hs | hs
   ·exact hI s hs
   ·rcases List.mem_singleton.1 hs with rfl;exact hp
 ·unfold O3
  rw [if_neg (by simp)]
  rw [List.take_of_length_le (Nat.le_refl _)] at hI
  exact ⟨_,rfl,.inl ⟨rfl,hI⟩⟩
theorem b3Q (p:Span→Bool) (f:Span→Option Bool) (hf:∀ x,f x=some (p x)) (l:List Span) (hl:l.length≤1000000):K9 l f=some (l.filter (fun x=>!p x)):=by
 unfold K9
 obtain ⟨r,er,hr⟩:=b4M p f hf l hl
 rw [er]
 simp only [Option.bind_some]
 rcases hr with ⟨rfl,hall⟩ | ⟨i0,hi0,rfl,hp0,hall⟩
 ·rw [if_pos (by decide),List.filter_eq_self.2 (fun a ha=>by rw [hall a ha];rfl)]
 ·rw [if_neg (by simp <;> omega),G7 (by omega)]
  obtain ⟨⟨m,e2⟩,em,i,he,h1,h2,h3⟩:=a4d (b1:=N9 f)
   (fun k s=>∃ i j:Nat,s.2.1=(i:Int)∧s.2.2=(j:Int)∧k+j=l.length∧i<j∧s.1.length=l.length∧s.1.take i=(l.take j).filter (fun x=>!p x)∧s.1.drop j=l.drop j)
   (fun r=>∃ i:Nat,r.2=(i:Int)∧i≤l.length∧r.1.length=l.length∧r.1.take i=l.filter (fun x=>!p x)) (by
    rintro k ⟨m,i',j'⟩ ⟨i,j,hi,hj,hk,hij,hml,ht,hd⟩
    simp only at hi hj hml ht hd
    subst hi
    subst hj
    unfold N9
    simp only
    by_cases hjl:j<l.length
    ·left
     have hmj:m[j]'(by omega)=l[j]:=by
      have h1:m[j]? = l[j]?:=by
       have:=congrArg (fun q=>q[0]?) hd
       simpa [List.getElem?_drop] using this
      rw [a0S (by omega),a0S hjl] at h1
      exact Option.some.inj h1
     rw [if_pos (decide_eq_true (by omega)),w9 m j (by omega),hmj]
     simp only [Option.bind_some]
     rw [hf]
     simp only [Option.bind_some]
     unfold J2
     simp only
     rw [G7 (n:=j) (by omega)]
     have htk:(l.take (j+1)).filter (fun x=>!p x)=(l.take j).filter (fun x=>!p x) ++ [l[j]].filter (fun x=>!p x):=by rw [G6 hjl,List.filter_append]
     have hdj:l.drop (j+1)=(l.drop j).drop 1:=by rw [List.drop_drop]
     have hmd:m.drop (j+1)=(m.drop j).drop 1:=by rw [List.drop_drop]
     cases hp:p l[j] with
     | true=>
      rw [if_neg (by simp)]
      refine ⟨_,k - 1,rfl,⟨i,j+1,rfl,rfl,by omega,by omega,hml,?_,?_⟩,by omega⟩
      ·rw [htk,ht];simp [hp]
      ·simp only;rw [hdj,hmd,hd]
     | false=>
      rw [if_pos (by simp),w9 m i (by omega)]
      simp only [Option.bind_some]
      rw [a5H _ _ _ (by omega) (by omega),G7 (n:=i) (by omega)]
      simp only [Option.bind_some,Int.toNat_natCast]
      refine ⟨_,k - 1,rfl,⟨i+1,j+1,rfl,rfl,by omega,by omega,by simpa using hml,?_,?_⟩,by omega⟩
      ·simp only
       rw [htk,← ht,G6 (by simp;omega),List.take_set_of_le (Nat.le_refl _)]
       simp [hp]
      ·simp only
       rw [List.drop_set_of_lt (by omega),hdj,hmd,hd]
    ·right
     rw [if_neg (by simp;omega)]
     refine ⟨_,rfl,i,rfl,by omega,hml,?_⟩
     rw [List.take_of_length_le (show l.length≤j by omega)] at ht
     exact ht) (l.length - (i0+1)) (l,(i0:Int),((i0+1:Nat):Int)) ⟨i0,i0+1,rfl,rfl,by omega,by omega,rfl,by
     simp only
     rw [G6 hi0,List.filter_append,List.filter_eq_self.2 (fun a ha=>by rw [hall a ha];rfl)]
     simp [hp0],rfl⟩
  rw [em]
  simp only at he h2 h3
  subst he
  simp only [Option.bind_some]
  have hsub:a0e m (i:Int) (m.length:Int)=some (m.drop i):=by
   rw [a4N _ _ _ (by omega) (Nat.le_refl _),List.take_of_length_le (Nat.le_refl _)]
  rw [hsub]
  simp only [Option.bind_some]
  have hcl:(O0 m (i:Int) (m.length:Int) (List.replicate (m.drop i).length (⟨0,0⟩:Span))).take i=m.take i:=by
   unfold O0
   simp only [Int.toNat_natCast]
   rw [List.append_assoc,List.take_append_of_le_length (by rw [List.length_take];omega),List.take_take,Nat.min_self]
  have hlen:i≤(O0 m (i:Int) (m.length:Int) (List.replicate (m.drop i).length (⟨0,0⟩:Span))).length:=by
   unfold O0
   simp only [Int.toNat_natCast,List.length_append,List.length_take]
   omega
  have h0:=a4N (O0 m (i:Int) (m.length:Int) (List.replicate (m.drop i).length (⟨0,0⟩:Span))) 0 i (Nat.zero_le _) hlen
  rw [hcl] at h0
  have h0':a0e (O0 m (i:Int) (m.length:Int) (List.replicate (m.drop i).length (⟨0,0⟩:Span))) 0 (i:Int)=some (m.take i):=by
   simpa using h0
  rw [h0',h3]
  rfl
theorem b4l (x y:Int):cmp_Compare_int x y=some (if x<y then -1 else if y<x then 1 else 0):=by
 unfold cmp_Compare_int cmp_isNaN_int
 simp only [bne_self_eq_false,Option.bind_some,Bool.false_eq_true,if_false]
 by_cases h1:x<y
 ·simp [h1]
 ·by_cases h2:y<x <;> simp [h1,h2]
theorem from_ok:CmpOK (fun _=>True) a2a (fun x y=>decide (x.From<y.From)):=by
 refine ⟨fun x y _ _=>?_,fun x _=>by simp,fun x y z _ _ _ h1 h2=>?_,fun x y z _ _ _ h1 h2=>?_⟩
 ·unfold a2a
  rw [b4l]
  refine ⟨_,rfl,?_⟩
  by_cases h1:x.From<y.From
  ·simp [h1]
  ·by_cases h2:y.From<x.From <;> simp [h1,h2]
 ·simp only [decide_eq_true_eq] at *;omega
 ·simp only [decide_eq_false_iff_not] at *;omega
theorem b6z (l:List Span) (f:Span→Span→Option Int):Q5 l f=a9i l f:=rfl
theorem SR.pw {l:List Span} (h:SR (fun x y=>decide (x.From<y.From)) 0 l.length l):l.Pairwise (fun s t=>s.From≤t.From):=by
 rw [List.pairwise_iff_getElem]
 intro i j hi hj hij
 have:=h i j _ _ (Nat.zero_le _) hij hj (a0S hi) (a0S hj)
 simp only [decide_eq_false_iff_not] at this
 omega
theorem b5g {srt out:List Span} {i:Nat} (hi:i<srt.length) (ho:out.length≤100000) (hl:srt.length≤100000) :
  a2L srt (out,(i:Int))=some (.inl (a8p out srt[i],((i+1:Nat):Int))):=by
 unfold a2L
 simp only
 rw [if_pos (decide_eq_true (by omega)),w9 _ _ hi]
 simp only [Option.bind_some]
 unfold a4y
 simp only
 rw [G7 (n:=i) (by omega)]
 rcases List.eq_nil_or_concat out with rfl | ⟨o,t,rfl⟩
 ·rw [b0C]
  simp only [List.length_nil]
  rw [if_neg (by decide)]
  simp only [Option.bind_some,Bool.false_eq_true,if_false]
  rw [E5 _ _ _ (by simp) (by decide)]
  rfl
 ·rw [List.concat_eq_append] at *
  have hlen:(((o ++ [t]).length:Nat):Int)=(o.length:Int)+1:=by simp
  have e1:w64 (((o ++ [t]).length:Int) - 1)=(o.length:Int):=by rw [hlen,y8 (by omega) (by omega)];omega
  rw [if_pos (decide_eq_true (by rw [hlen];omega)),e1,a8K]
  simp only [Option.bind_some]
  rw [a9w]
  by_cases hc:srt[i].From≤t.To
  ·rw [if_pos (decide_eq_true hc),if_pos hc,a5N]
   rfl
  ·rw [if_neg (by simpa using hc),if_neg hc,E5 _ _ _ (by simp at ho ⊢;omega) (by decide)]
   rfl
theorem b5h {srt:List Span} (hl:srt.length≤100000) (hne:∀ s∈srt,s.From<s.To) (hs:srt.Pairwise (fun s t=>s.From≤t.From)) :
  ∃ r,l9 (a2L srt) ([],0)=some r∧MI srt srt.length r:=
 Y3 (fun a i=>(a,i)) srt.length (fun i out=>MI srt i out) (fun r=>MI srt srt.length r) (fun i hi a h=>by
  have:=h.len
  exact ⟨_,b5g hi (by omega) hl,h.step hi hne hs⟩) (fun a h=>by
  unfold a2L
  simp only
  rw [if_neg (by simp)]
  exact ⟨_,rfl,h⟩) [] MI.zero
structure NS (l r:List Span):Prop where
 vs:VS r
 mem:∀ y,Mem r y↔Mem l y
 len:r.length≤l.length
 ends:∀ s∈r,(∃ t∈l,s.From=t.From)∧(∃ t∈l,s.To=t.To)
theorem NS.of {l f srt r:List Span} (hf:f=l.filter (fun s=>decide (s.From<s.To))) (hp:srt.Perm f) (h:MI srt srt.length r):NS l r:=by
 have hsub:∀ s∈srt,s∈l:=fun s hs=>(List.mem_filter.1 (hf ▸ hp.mem_iff.1 hs)).1
 refine ⟨h.vs,fun y=>?_,?_,fun s hs=>?_⟩
 ·rw [h.mem,List.take_of_length_le (Nat.le_refl _),mem_perm hp,hf,mem_filter]
 ·have h1:=h.len
  rw [hp.length_eq,hf] at h1
  exact Nat.le_trans h1 (List.length_filter_le _ _)
 ·obtain ⟨⟨t,ht,e⟩,⟨u,hu,e'⟩⟩:=h.ends s hs
  exact ⟨⟨t,hsub t ht,e⟩,⟨u,hsub u hu,e'⟩⟩
theorem a6x {l:List Span} (hl:l.length<100000):∃ r,a2K l=some r∧NS l r:=by
 unfold a2K
 rw [sclone _ (by omega)]
 simp only [Option.bind_some]
 rw [b3Q (fun s=>!(decide (s.From<s.To))) a3N (fun x=>rfl) l (by omega)]
 simp only [Option.bind_some,Bool.not_not]
 have hfl:(l.filter (fun s=>decide (s.From<s.To))).length≤l.length:=List.length_filter_le _ _
 obtain ⟨srt,es,hp,hln,hsr⟩:=b0T from_ok (l:=l.filter (fun s=>decide (s.From<s.To))) (fun _ _=>trivial) (by omega)
 rw [b6z,es]
 simp only [Option.bind_some]
 rw [← hln] at hsr
 obtain ⟨r,er,hr⟩:=b5h (srt:=srt) (by omega) (fun s hs=>by simpa using (List.mem_filter.1 (hp.mem_iff.1 hs)).2) hsr.pw
 rw [er]
 exact ⟨r,rfl,NS.of rfl hp hr⟩
theorem b4H {srt out:List Span} {i:Nat} (hi:i<srt.length) (ho:out.length≤100000) (hl:srt.length≤100000) :
  a1X srt (out,(i:Int))=some (.inl (a8p out srt[i],((i+1:Nat):Int))):=by
 unfold a1X
 simp only
 rw [if_pos (decide_eq_true (by omega))]
 simp only [Option.bind_some]
 unfold a3I
 simp only
 rw [G7 (n:=i) (by omega)]
 rcases List.eq_nil_or_concat out with rfl | ⟨o,t,rfl⟩
 ·rw [b0C]
  simp only [List.length_nil]
  rw [if_neg (by decide)]
  simp only [Option.bind_some,Bool.false_eq_true,if_false]
  rw [w9 _ _ hi]
  simp only [Option.bind_some]
  rw [E5 _ _ _ (by simp) (by decide)]
  rfl
 ·rw [List.concat_eq_append] at *
  have hlen:(((o ++ [t]).length:Nat):Int)=(o.length:Int)+1:=by simp
  have e1:w64 (((o ++ [t]).length:Int) - 1)=(o.length:Int):=by rw [hlen,y8 (by omega) (by omega)];omega
  rw [if_pos (decide_eq_true (by rw [hlen];omega)),e1,a8K,w9 _ _ hi]
  simp only [Option.bind_some]
  rw [a9w]
  by_cases hc:srt[i].From≤t.To
  ·rw [if_pos (decide_eq_true hc),if_pos hc,a5N]
   rfl
  ·rw [if_neg (by simpa using hc),if_neg hc,E5 _ _ _ (by simp at ho ⊢;omega) (by decide)]
   rfl
theorem b4I {srt:List Span} (hl:srt.length≤100000) (hne:∀ s∈srt,s.From<s.To) (hs:srt.Pairwise (fun s t=>s.From≤t.From)) :
  ∃ r,l9 (a1X srt) ([],0)=some r∧MI srt srt.length r:=
 Y3 (fun a i=>(a,i)) srt.length (fun i out=>MI srt i out) (fun r=>MI srt srt.length r) (fun i hi a h=>by
  have:=h.len
  exact ⟨_,b4H hi (by omega) hl,h.step hi hne hs⟩) (fun a h=>by
  unfold a1X
  simp only
  rw [if_neg (by simp)]
  exact ⟨_,rfl,h⟩) [] MI.zero
theorem rplace {l s:List Span} {i:Nat} (hi:i<l.length) (hs:s.Pairwise (fun s t=>s.From≤t.From)) (hl:s.length≤100000) :
  ∃ e:Nat,l9 (a3K l (s,(i:Int))) (s.length:Int)=some (e:Int)∧e≤s.length∧(∀ t∈s.take e,t.From≤l[i].From)∧(∀ t∈s.drop e,l[i].From≤t.From):=by
 obtain ⟨r,er,e,he,h⟩:=a4d (b1:=a3K l (s,(i:Int)))
  (fun k q=>∃ e:Nat,q=(e:Int)∧k=e∧e≤s.length∧(∀ t∈s.drop e,l[i].From≤t.From))
  (fun r=>∃ e:Nat,r=(e:Int)∧e≤s.length∧(∀ t∈s.take e,t.From≤l[i].From)∧(∀ t∈s.drop e,l[i].From≤t.From)) (by
   rintro k q ⟨e,rfl,hk,h1,h2⟩
   unfold a3K
   simp only
   by_cases h0:0<e
   ·have e1:w64 ((e:Int) - 1)=((e - 1:Nat):Int):=w64_nat (by omega) (by omega)
    rw [if_pos (decide_eq_true (by omega)),e1,w9 s (e - 1) (by omega),w9 _ _ hi]
    simp only [Option.bind_some]
    by_cases hc:l[i].From<s[e - 1].From
    ·left
     rw [if_pos (decide_eq_true hc)]
     refine ⟨_,k - 1,rfl,⟨e - 1,rfl,by omega,by omega,fun t ht=>?_⟩,by omega⟩
     rw [List.drop_eq_getElem_cons (by omega),show e - 1+1=e by omega] at ht
     rcases List.mem_cons.1 ht with rfl | ht
     ·omega
     ·exact h2 t ht
    ·right
     rw [if_neg (by simpa using hc)]
     refine ⟨_,rfl,e,rfl,h1,fun t ht=>?_,h2⟩
     rw [show e=e - 1+1 by omega,G6 (by omega)] at ht
     rcases List.mem_append.1 ht with ht | ht
     ·obtain ⟨j,hj⟩:=List.mem_iff_getElem?.1 ht
      rw [List.getElem?_take] at hj
      split at hj
      ·next hlt=>
       obtain ⟨hjl,hj'⟩:=a7w hj
       have:=List.pairwise_iff_getElem.1 hs j (e - 1) hjl (by omega) hlt
       rw [hj'] at this
       omega
      ·cases hj
     ·rcases List.mem_singleton.1 ht with rfl;omega
   ·right
    rw [if_neg (by simp;omega)]
    simp only [Option.bind_some,Bool.false_eq_true,if_false]
    have:e=0:=by omega
    subst this
    exact ⟨_,rfl,0,rfl,h1,by simp,h2⟩) s.length (s.length:Int) ⟨s.length,rfl,rfl,Nat.le_refl _,by simp⟩
 subst he
 exact ⟨e,er,h⟩
theorem rinsert {s:List Span} {x:Span} {e:Nat} (he:e≤s.length) (hl:s.length≤100000) :
  a0e (s ++ [x]) ((e+1:Nat):Int) ((s ++ [x]).length:Int)=some (s.drop (e+1) ++ [x].drop (e+1 - s.length))∧a0e (s ++ [x]) (e:Int) ((s ++ [x]).length:Int)=some (s.drop e ++ [x]) ∧
  ∃ q,q=O0 (s ++ [x]) ((e+1:Nat):Int) ((s ++ [x]).length:Int) (s.drop e ++ [x])∧e<q.length∧q.set e x=s.take e ++ ([x] ++ s.drop e):=by
 have hlen:(s ++ [x]).length=s.length+1:=by simp
 refine ⟨?_,?_,_,rfl,?_,?_⟩
 ·rw [a4N _ _ _ (by omega) (Nat.le_refl _),List.take_of_length_le (Nat.le_refl _),List.drop_append]
 ·rw [a4N _ _ _ (by omega) (Nat.le_refl _),List.take_of_length_le (Nat.le_refl _),List.drop_append_of_le_length he]
 ·unfold O0
  simp only [Int.toNat_natCast,List.length_append,List.length_take,List.length_drop,List.length_cons,List.length_nil]
  omega
 ·unfold O0
  simp only [Int.toNat_natCast]
  have e1:(s.drop e ++ [x]).take ((s ++ [x]).length - (e+1))=s.drop e:=by
   rw [hlen,List.take_append_of_le_length (by rw [List.length_drop];omega),List.take_of_length_le (by rw [List.length_drop];omega)]
  have e2:(s ++ [x]).drop (e+1+min (s.drop e ++ [x]).length ((s ++ [x]).length - (e+1)))=[]:=by
   apply List.drop_eq_nil_of_le
   simp only [List.length_append,List.length_drop,List.length_cons,List.length_nil]
   omega
  rw [e1,e2,List.append_nil]
  have e3:(s ++ [x]).take (e+1)=s.take e ++ [(s ++ [x])[e]'(by omega)]:=by
   rw [G6 (by omega),List.take_append_of_le_length he]
  rw [e3,List.append_assoc,List.set_append,if_neg (by rw [List.length_take];omega)]
  have:e - (s.take e).length=0:=by rw [List.length_take];omega
  rw [this]
  rfl
theorem a1Q {l:List Span} (hl:l.length≤100000):∃ r,X0 l=some r∧NS l r:=by
 obtain ⟨srt,es,hpw,hp⟩:=Y3 (body:=a3J l) (fun a i=>(a,i)) l.length
  (fun i s=>s.Pairwise (fun s t=>s.From≤t.From)∧s.Perm ((l.take i).filter (fun s=>decide (s.From<s.To))))
  (fun s=>s.Pairwise (fun s t=>s.From≤t.From)∧s.Perm (l.filter (fun s=>decide (s.From<s.To)))) (fun i hi s ⟨h1,h2⟩=>by
   have hsl:s.length≤i:=by
    rw [h2.length_eq]
    exact Nat.le_trans (List.length_filter_le _ _) (by rw [List.length_take];omega)
   unfold a3J
   simp only
   unfold a3H
   simp only
   rw [if_pos (decide_eq_true (by omega)),w9 _ _ hi,G7 (n:=i) (by omega)]
   simp only [Option.bind_some]
   by_cases hc:l[i].To≤l[i].From
   ·rw [if_pos (decide_eq_true hc)]
    refine ⟨s,rfl,h1,?_⟩
    rw [G6 hi,List.filter_append]
    have:¬ l[i].From<l[i].To:=by omega
    simpa [this] using h2
   ·rw [if_neg (by simpa using hc)]
    obtain ⟨e,ee,he,ha,hb⟩:=rplace hi h1 (by omega)
    rw [ee]
    simp only [Option.bind_some]
    rw [E5 _ _ _ (by simp;omega) (by decide),G7 (n:=e) (by omega)]
    simp only [Option.bind_some]
    obtain ⟨q1,q2,q,eq,hq,hset⟩:=rinsert (s:=s) (x:=l[i]) he (by omega)
    rw [q1,q2]
    simp only [Option.bind_some]
    rw [← eq,w9 _ _ hq]
    simp only [Option.bind_some]
    rw [a5H _ _ _ (by omega) (by omega),Int.toNat_natCast,hset]
    refine ⟨_,rfl,?_,?_⟩
    ·rw [List.pairwise_append,List.pairwise_append]
     refine ⟨h1.sublist (List.take_sublist _ _),⟨List.pairwise_singleton _ _,h1.sublist (List.drop_sublist _ _),fun a ha' b hb'=>?_⟩,fun a ha' b hb'=>?_⟩
     ·rcases List.mem_singleton.1 ha' with rfl
      exact hb b hb'
     ·rcases List.mem_append.1 hb' with hb' | hb'
      ·rcases List.mem_singleton.1 hb' with rfl
       exact ha a ha'
      ·obtain ⟨j,hj⟩:=List.mem_iff_getElem?.1 ha'
       obtain ⟨k,hk⟩:=List.mem_iff_getElem?.1 hb'
       have h3:=ha a ha'
       have h4:=hb b hb'
       omega
    ·have h3:(s.take e ++ ([l[i]] ++ s.drop e)).Perm (s ++ [l[i]]):=by
      have h4:(s.take e ++ ([l[i]] ++ s.drop e)).Perm (s.take e ++ (s.drop e ++ [l[i]])):=List.Perm.append_left _ List.perm_append_comm
      rw [← List.append_assoc (s.take e) (s.drop e),List.take_append_drop] at h4
      exact h4
     refine h3.trans ?_
     rw [G6 hi,List.filter_append]
     have:l[i].From<l[i].To:=by omega
     have e1:[l[i]].filter (fun s=>decide (s.From<s.To))=[l[i]]:=by simp [this]
     rw [e1]
     exact List.Perm.append_right _ h2) (fun s ⟨h1,h2⟩=>by
   unfold a3J
   simp only
   rw [if_neg (by simp)]
   rw [List.take_of_length_le (Nat.le_refl _)] at h2
   exact ⟨s,rfl,h1,h2⟩) [] ⟨List.Pairwise.nil,by simp⟩
 have hsl:srt.length≤l.length:=by
  rw [hp.length_eq];exact List.length_filter_le _ _
 unfold X0
 rw [es]
 simp only [Option.bind_some]
 obtain ⟨r,er,hr⟩:=b4I (srt:=srt) (by omega) (fun s hs=>by simpa using (List.mem_filter.1 (hp.mem_iff.1 hs)).2) hpw
 rw [er]
 exact ⟨r,rfl,NS.of rfl hp hr⟩
theorem NS.uniq {l r s:List Span} (h1:NS l r) (h2:NS l s):r=s:=h1.vs.uniq h2.vs (fun x=>(h1.mem x).trans (h2.mem x).symm)
end Go.Proofs.YtdcafiefjakfeaaGreat.Sh
namespace Go.Proofs.YtdcafiefjakfeaaGreat.Sh
open Go
set_option linter.unusedVariables false
set_option linter.unusedSimpArgs false
def inB (n lo hi:Int):Bool:=decide (lo≤n) && decide (n≤hi)
theorem V7 {n lo hi:Int}:inB n lo hi=true↔lo≤n∧n≤hi:=by simp [inB]
theorem a7c {n lo hi:Int} (h1:lo≤n) (h2:n≤hi):inB n lo hi=true:=V7.2 ⟨h1,h2⟩
theorem a9x (n lo hi:Int):a6y n lo hi=some (inB n lo hi):=rfl
theorem b6B (m n:Nat):((m:Int).tmod (n:Int))=((m % n:Nat):Int):=by
 rw [Int.tmod_eq_emod_of_nonneg (Int.natCast_nonneg m)];rfl
theorem b5G {body:Int × Int→Option ((Int × Int) ⊕ Int)} (hb:∀ s,body s=if (s.2 != 0)=true then (b2l s.1 s.2).bind fun r=>some (Sum.inl (s.2,r)) else some (Sum.inr s.1)) (a b:Nat) :
  l9 body ((a:Int),(b:Int))=some (Nat.gcd a b:Int):=by
 have h:=a9D (body:=body) (fun s=>∃ x y:Nat,s=((x:Int),(y:Int))∧Nat.gcd x y=Nat.gcd a b) (fun s=>s.2.toNat) (fun r=>r=(Nat.gcd a b:Int)) (by
  rintro s ⟨x,y,rfl,hg⟩
  by_cases hy:y=0
  ·right
   subst hy
   refine ⟨(x:Int),?_,?_⟩
   ·rw [hb];simp
   ·rw [← hg];simp
  ·left
   have hy':(y:Int)≠0:=by omega
   refine ⟨((y:Int),((x % y:Nat):Int)),?_,⟨y,x % y,rfl,?_⟩,?_⟩
   ·rw [hb,if_pos (by simpa using hy)]
    simp only
    rw [b3L _ _ hy',b6B]
    rfl
   ·rw [← hg,Nat.gcd_comm y,← Nat.gcd_rec,Nat.gcd_comm]
   ·simp only [Int.toNat_natCast]
    exact Nat.mod_lt _ (by omega)) ((a:Int),(b:Int)) ⟨a,b,rfl,rfl⟩
 obtain ⟨r,hr,rfl⟩:=h
 exact hr
theorem b4A (a b:Int) (ha:0≤a) (hb:0≤b):a9Y a b=some (Int.gcd a b:Int):=by
 obtain ⟨m,rfl⟩:=Int.eq_ofNat_of_zero_le ha
 obtain ⟨n,rfl⟩:=Int.eq_ofNat_of_zero_le hb
 unfold a9Y
 rw [b5G (body:=b1g) (fun _=>rfl)]
 rfl
structure RV (r:Rate):Prop where
 n0:1≤r.Num
 n1:r.Num≤4096
 d0:1≤r.Den
 d1:r.Den≤4096
 g:Int.gcd r.Num r.Den=1
def a5v (r:Rate):Bool:=inB r.Num 1 4096 && (inB r.Den 1 4096 && decide (Int.gcd r.Num r.Den=1))
theorem a2A {r:Rate}:a5v r=true↔RV r:=by
 simp only [a5v,inB,Bool.and_eq_true,decide_eq_true_eq]
 exact ⟨fun ⟨⟨a,b⟩,⟨c,d⟩,e⟩=>⟨a,b,c,d,e⟩,fun ⟨a,b,c,d,e⟩=>⟨⟨a,b⟩,⟨c,d⟩,e⟩⟩
theorem a9b (r:Rate):a5Z r=some (a5v r):=by
 unfold a5Z a5v
 simp only [a9x,Option.bind]
 by_cases h1:inB r.Num 1 4096=true
 ·by_cases h2:inB r.Den 1 4096=true
  ·have a1:=V7.1 h1
   have a2:=V7.1 h2
   rw [if_pos h1,h1,h2,b4A _ _ (by omega) (by omega)]
   simp only [if_true,Bool.true_and,Option.some.injEq]
   rw [Bool.eq_iff_iff];simp;omega
  ·simp only [Bool.not_eq_true] at h2
   simp [h1,h2]
 ·simp only [Bool.not_eq_true] at h1
  simp [h1]
def timeV (start:Int) (r:Rate) (k:Int):Int × Int:=
 if a5v r=true then (if (inB start 0 9007199254740992 && inB k 0 16777216)=true then (start+k * (r.Den * 1000000) / r.Num,0) else (0,2)) else (0,1)
theorem a8H {start k:Int} {r:Rate} (h:RV r) (s0:0≤start) (s1:start≤9007199254740992) (k0:0≤k) (k1:k≤16777216):timeV start r k=(start+k * (r.Den * 1000000) / r.Num,0):=by
 unfold timeV
 rw [if_pos (a2A.2 h),if_pos (by rw [a7c s0 s1,a7c k0 k1];rfl)]
theorem a9m {k:Int} {r:Rate} (h:RV r) (k0:0≤k) (k1:k≤16777216):0≤k * (r.Den * 1000000)∧k * (r.Den * 1000000)≤68719476736000000∧0≤k * (r.Den * 1000000) / r.Num∧k * (r.Den * 1000000) / r.Num≤68719476736000000:=by
 have hd0:=h.d0
 have hd1:=h.d1
 have hn0:=h.n0
 have e1:k * (r.Den * 1000000)≤16777216 * 4096000000:=Int.mul_le_mul k1 (by omega) (by omega) (by omega)
 have e0:0≤k * (r.Den * 1000000):=Int.mul_nonneg k0 (by omega)
 have e2:k * (r.Den * 1000000) / r.Num≤k * (r.Den * 1000000):=Int.ediv_le_self _ e0
 have e3:0≤k * (r.Den * 1000000) / r.Num:=Int.ediv_nonneg e0 (by omega)
 omega
theorem b0E {a b:Int} (hb:0<b) (ha:0≤a) (h:a≤9223372036854775807):b1q .i64 a b=some (a / b):=by
 rw [quoM_at _ _ _ (by omega),Int.tdiv_eq_ediv_of_nonneg ha]
 have h1:=Int.ediv_le_self b ha
 have h2:=Int.ediv_nonneg ha (by omega:0≤b)
 have:=y8 (x:=a / b) (by omega) (by omega)
 simp only [w64] at this
 rw [this]
theorem rem_nn {a b:Int} (hb:0<b) (ha:0≤a):b2l a b=some (a % b):=by
 rw [b3L _ _ (by omega),Int.tmod_eq_emod_of_nonneg ha]
theorem a8r {r:Rate} (h:RV r):a5l r=some (r.Den * 1000000):=by
 have hd0:=h.d0
 have hd1:=h.d1
 unfold a5l
 rw [y8 (by omega) (by omega)];rfl
theorem b2D {r:Rate} (h:RV r) {k:Int} (k0:0≤k) (k1:k≤16777216):a7N r k=some (k * (r.Den * 1000000) / r.Num):=by
 obtain ⟨e0,e1,e2,e3⟩:=a9m h k0 k1
 have hn0:=h.n0
 unfold a7N
 rw [a8r h]
 simp only [Option.bind]
 rw [y8 (by omega) (by omega),b0E (by omega) e0 (by omega)]
theorem a1N (start:Int) (r:Rate) (k:Int):a2V start r k=some (timeV start r k):=by
 unfold a2V timeV
 rw [a9b]
 simp only [a9x,Option.bind]
 by_cases h:a5v r=true
 ·have hr:=a2A.1 h
  rw [h]
  simp only [Bool.not_true,Bool.false_eq_true,if_false,if_true]
  by_cases h1:inB start 0 9007199254740992=true
  ·rw [h1]
   simp only [Bool.not_true,Bool.false_eq_true,if_false,Bool.true_and]
   by_cases h2:inB k 0 16777216=true
   ·have a1:=V7.1 h1
    have a2:=V7.1 h2
    obtain ⟨e0,e1,e2,e3⟩:=a9m hr a2.1 a2.2
    rw [h2,b2D hr a2.1 a2.2]
    simp only [Bool.not_true,Bool.false_eq_true,if_false,if_true]
    rw [y8 (by omega) (by omega)]
   ·simp only [Bool.not_eq_true] at h2
    rw [h2];simp
  ·simp only [Bool.not_eq_true] at h1
   rw [h1];simp
 ·simp only [Bool.not_eq_true] at h
  rw [h];simp
end Go.Proofs.YtdcafiefjakfeaaGreat.Sh
namespace Go.Proofs.YtdcafiefjakfeaaGreat.Sh
open Go
set_option linter.unusedVariables false
set_option linter.unusedSimpArgs false
theorem b2z (p:Int→Bool) (f:Int→Option Bool) (hf:∀ x,f x=some (p x)) (s:List Int) (hl:s.length≤1000000000):Q3 s f=some (s.any p):=by
 have hw:U7 s f=some (if s.findIdx p<s.length then (s.findIdx p:Int) else -1):=by
  unfold U7
  have hle:=List.findIdx_le_length (xs:=s) (p:=p)
  refine D9 (fun i=>(i:Int)) (s.findIdx p) _ rfl (fun i hi=>?_) ?_
  ·have hn:=List.not_of_lt_findIdx hi
   simp only [a0d]
   rw [if_pos (decide_eq_true (by omega)),w9 _ _ (by omega)]
   simp only [Option.bind,hf]
   rw [if_neg (by simpa using hn),y8 (by omega) (by omega)]
   rfl
  ·simp only [a0d]
   by_cases h:s.findIdx p<s.length
   ·rw [if_pos (decide_eq_true (by omega)),w9 _ _ h]
    simp only [Option.bind,hf]
    rw [if_pos (List.findIdx_getElem (w:=h)),if_pos h]
   ·rw [if_neg (fun hh=>h (by have:=of_decide_eq_true hh;omega)),if_neg h];rfl
 unfold Q3
 rw [hw]
 simp only [Option.bind]
 by_cases h:s.findIdx p<s.length
 ·rw [if_pos h]
  have h2:=List.findIdx_getElem (xs:=s) (p:=p) (w:=h)
  have:s.any p=true:=List.any_eq_true.2 ⟨_,List.getElem_mem h,h2⟩
  rw [this,decide_eq_true (Int.natCast_nonneg _)]
 ·rw [if_neg h]
  have:s.any p=false:=by
   rw [List.any_eq_false]
   intro x hx hp
   exact h (List.findIdx_lt_length_of_exists ⟨x,hx,hp⟩)
  rw [this]
  rfl
end Go.Proofs.YtdcafiefjakfeaaGreat.Sh
namespace Go.Proofs.YtdcafiefjakfeaaGreat.Sh
open Go
set_option linter.unusedVariables false
set_option linter.unusedSimpArgs false
def a6S (c:Int):Bool:=(decide (65≤c) && decide (c≤90)) || (decide (48≤c) && decide (c≤57))
def bts (s:ByteArray):List UInt8:=s.data.toList
theorem a9n (s:ByteArray) (i:Nat) (h:i<(bts s).length):a6L s (i:Int)=some (((bts s)[i]).toNat:Int):=by
 have hs:i<s.size:=by simpa [bts] using h
 unfold a6L
 rw [if_pos (Int.natCast_nonneg i),Int.toNat_natCast]
 have:s[i]? = some s[i]:=getElem?_pos s i hs
 rw [this]
 rfl
def a1s (s:ByteArray) (lo hi:Int):Bool:=((bts s).all fun c=>a6S c.toNat) && inB s.size lo hi
theorem a4v (s:ByteArray) (lo hi:Int) (hs:s.size≤9223372036854775807):a2J s lo hi=some (a1s s lo hi):=by
 unfold a2J a1s
 have hl:s.size=(bts s).length:=by simp [bts]
 rw [a9T (bts s).length (fun i=>a6S (((bts s).getD i 0).toNat:Int)) false (inB s.size lo hi)]
 ·rw [b0G (bts s) (fun c=>a6S c.toNat) _ (fun i hi=>by simp [List.getD_eq_getElem?_getD,hi])]
  cases (bts s).all (fun c=>a6S c.toNat) <;> simp
 ·intro i hi hp
  have e:(bts s).getD i 0=(bts s)[i]:=by simp [List.getD_eq_getElem?_getD,hi]
  rw [e] at hp
  unfold a4w
  rw [if_pos (decide_eq_true (by omega)),a9n s i hi]
  simp only [Option.bind,a5K]
  have:((decide (65≤(((bts s)[i]).toNat:Int)) && decide ((((bts s)[i]).toNat:Int)≤90)) || (decide (48≤(((bts s)[i]).toNat:Int)) && decide ((((bts s)[i]).toNat:Int)≤57)))=true:=hp
  rw [this]
  simp only [Bool.not_true,Bool.false_eq_true,if_false]
  rw [y8 (by omega) (by omega)]
  rfl
 ·intro i hi hp
  have e:(bts s).getD i 0=(bts s)[i]:=by simp [List.getD_eq_getElem?_getD,hi]
  rw [e] at hp
  unfold a4w
  rw [if_pos (decide_eq_true (by omega)),a9n s i hi]
  simp only [Option.bind,a5K]
  have:((decide (65≤(((bts s)[i]).toNat:Int)) && decide ((((bts s)[i]).toNat:Int)≤90)) || (decide (48≤(((bts s)[i]).toNat:Int)) && decide ((((bts s)[i]).toNat:Int)≤57)))=false:=hp
  rw [this]
  simp
 ·unfold a4w
  rw [if_neg (by simp;omega)]
  rfl
def a6q (s:SourceID):Bool:=a1s s.Network 1 2 && a1s s.Station 1 5 && a1s s.Location 0 2 && !((s.Location.size:Int) == 1) && a1s s.Channel 3 3
structure SrcSm (x:SourceID):Prop where
 n:x.Network.size≤9223372036854775807
 s:x.Station.size≤9223372036854775807
 l:x.Location.size≤9223372036854775807
 c:x.Channel.size≤9223372036854775807
theorem b1x {s:SourceID} (h:SrcSm s):a5J s=some (a6q s):=by
 unfold a5J a6q
 rw [a4v _ _ _ h.n,a4v _ _ _ h.s,a4v _ _ _ h.l,a4v _ _ _ h.c]
 have hb:((s.Location.size:Int) != 1)=!((s.Location.size:Int) == 1):=rfl
 rw [hb]
 cases a1s s.Network 1 2 <;> cases a1s s.Station 1 5 <;> cases a1s s.Location 0 2 <;> cases ((s.Location.size:Int) == 1) <;> cases a1s s.Channel 3 3 <;> rfl
def a8E (l:List Int):Bool:=l.all fun x=>inB x (-1073741823) 1073741823
theorem b0g {l:List Int}:a8E l=true↔∀ x∈l,-1073741823≤x∧x≤1073741823:=by
 simp only [a8E,List.all_eq_true,V7]
def a5m (r:Record):Bool:=
 a6q r.Source && inB r.Samples.length 1 65536 && inB r.First 0 (16777216 - r.Samples.length) && inB r.Error 0 1099511627776 && inB r.Run 0 65535 && inB r.Seq 0 1073741824 &&
  ((timeV r.Start r.Rate (r.First+r.Samples.length)).2 == 0) && decide ((timeV r.Start r.Rate (r.First+r.Samples.length)).1≤9007199254740992) && a8E r.Samples
theorem b3G (n lo hi:Int):a3U n lo hi=some (inB n lo hi):=rfl
theorem a1W {r:Record} (hs:SrcSm r.Source) (hl:r.Samples.length≤1000000000):W9 r=some (a5m r):=by
 unfold W9 a5m
 rw [b1x hs]
 simp only [b3G,Option.bind]
 rw [y8 (x:=16777216 - (r.Samples.length:Int)) (by omega) (by omega)]
 have hw:∀ x,a2X x=some (!(inB x (-1073741823) 1073741823)):=fun x=>rfl
 rw [b2z _ _ hw r.Samples (by omega)]
 have hany:(!(r.Samples.any fun x=>!(inB x (-1073741823) 1073741823)))=a8E r.Samples:=by
  unfold a8E
  rw [List.any_eq_not_all_not];simp
 simp only [hany]
 cases a6q r.Source
 ·simp
 cases h1:inB (r.Samples.length:Int) 1 65536
 ·simp
 cases h2:inB r.First 0 (16777216 - (r.Samples.length:Int))
 ·simp
 have a2:=V7.1 h2
 rw [y8 (x:=r.First+(r.Samples.length:Int)) (by omega) (by omega),a1N]
 cases inB r.Error 0 1099511627776
 ·simp
 cases inB r.Run 0 65535
 ·simp
 cases inB r.Seq 0 1073741824
 ·simp
 simp only [Bool.not_true,Bool.false_eq_true,if_false,Bool.true_and]
 cases ((timeV r.Start r.Rate (r.First+r.Samples.length)).2 == 0)
 ·simp
 cases decide ((timeV r.Start r.Rate (r.First+r.Samples.length)).1≤9007199254740992)
 ·simp
 simp
end Go.Proofs.YtdcafiefjakfeaaGreat.Sh
namespace Go.Proofs.YtdcafiefjakfeaaGreat.Sh
open Go
set_option linter.unusedVariables false
set_option linter.unusedSimpArgs false
structure RF (r:Record):Prop where
 src:a6q r.Source=true
 l0:1≤r.Samples.length
 l1:r.Samples.length≤65536
 f0:0≤r.First
 f1:r.First+r.Samples.length≤16777216
 e0:0≤r.Error
 e1:r.Error≤1099511627776
 r0:0≤r.Run
 r1:r.Run≤65535
 q0:0≤r.Seq
 q1:r.Seq≤1073741824
 rv:RV r.Rate
 s0:0≤r.Start
 s1:r.Start≤9007199254740992
 te:r.Start+(r.First+r.Samples.length) * (r.Rate.Den * 1000000) / r.Rate.Num≤9007199254740992
 smp:a8E r.Samples=true
theorem b5u {start k:Int} {r:Rate} (h:((timeV start r k).2 == 0)=true):RV r∧0≤start∧start≤9007199254740992∧0≤k∧k≤16777216:=by
 unfold timeV at h
 by_cases h1:a5v r=true
 ·rw [if_pos h1] at h
  by_cases h2:(inB start 0 9007199254740992 && inB k 0 16777216)=true
  ·simp only [Bool.and_eq_true,V7] at h2
   exact ⟨a2A.1 h1,h2.1.1,h2.1.2,h2.2.1,h2.2.2⟩
  ·rw [if_neg h2] at h;simp at h
 ·rw [if_neg h1] at h;simp at h
theorem R5 {r:Record}:a5m r=true↔RF r:=by
 unfold a5m
 constructor
 ·intro h
  simp only [Bool.and_eq_true,V7,decide_eq_true_eq] at h
  obtain ⟨⟨⟨⟨⟨⟨⟨⟨h1,h2,h3⟩,h4,h5⟩,h6,h7⟩,h8,h9⟩,h10,h11⟩,h12⟩,h13⟩,h14⟩:=h
  obtain ⟨g1,g2,g3,g4,g5⟩:=b5u h12
  rw [a8H g1 g2 g3 g4 g5] at h13
  exact ⟨h1,by omega,by omega,h4,by omega,h6,h7,h8,h9,h10,h11,g1,g2,g3,h13,h14⟩
 ·intro h
  have a1:=h.l0
  have a2:=h.l1
  have a3:=h.f0
  have a4:=h.f1
  rw [a8H h.rv h.s0 h.s1 (by omega) (by omega)]
  simp only [Bool.and_eq_true,V7,decide_eq_true_eq]
  exact ⟨⟨⟨⟨⟨⟨⟨⟨h.src,by omega,by omega⟩,a3,by omega⟩,h.e0,h.e1⟩,h.r0,h.r1⟩,h.q0,h.q1⟩,rfl⟩,h.te⟩,h.smp⟩
theorem a7B {s:ByteArray} {lo hi:Int} (h:a1s s lo hi=true):(s.size:Int)≤hi:=by
 simp only [a1s,Bool.and_eq_true,V7] at h
 exact h.2.2
theorem a7V {s:SourceID} (h:a6q s=true):SrcSm s:=by
 simp only [a6q,Bool.and_eq_true] at h
 have a1:=a7B h.1.1.1.1
 have a2:=a7B h.1.1.1.2
 have a3:=a7B h.1.1.2
 have a4:=a7B h.2
 exact ⟨by omega,by omega,by omega,by omega⟩
theorem RF.valid {r:Record} (h:RF r):W9 r=some true:=by
 rw [a1W (a7V h.src) (by have:=h.l1;omega),R5.2 h]
def o5 (r:Record) (i:Int):Int:=r.Start+(r.First+i) * (r.Rate.Den * 1000000) / r.Rate.Num
theorem RF.timeV {r:Record} (h:RF r) {i:Int} (i0:0≤i) (i1:i≤r.Samples.length):timeV r.Start r.Rate (r.First+i)=(o5 r i,0):=by
 have a3:=h.f0
 have a4:=h.f1
 rw [a8H h.rv h.s0 h.s1 (by omega) (by omega)]
 rfl
theorem RF.mono {r:Record} (h:RF r) {i j:Int} (hij:i≤j):o5 r i≤o5 r j:=by
 have hn:=h.rv.n0
 have hd:=h.rv.d0
 unfold o5
 have:(r.First+i) * (r.Rate.Den * 1000000)≤(r.First+j) * (r.Rate.Den * 1000000):=Int.mul_le_mul_of_nonneg_right (by omega) (by omega)
 have:=Int.ediv_le_ediv (show 0<r.Rate.Num by omega) this
 omega
theorem RF.tb {r:Record} (h:RF r) {i:Int} (i0:0≤i) (i1:i≤r.Samples.length):0≤o5 r i∧o5 r i≤9007199254740992:=by
 have hn:=h.rv.n0
 have hd:=h.rv.d0
 have h1:=h.mono i1
 have h2:=h.te
 have h3:0≤(r.First+i) * (r.Rate.Den * 1000000) / r.Rate.Num:=Int.ediv_nonneg (Int.mul_nonneg (by have:=h.f0;omega) (by omega)) (by omega)
 have h4:=h.s0
 unfold o5 at *
 omega
theorem a2B {r:Record} (h:RF r) {i:Int} (i0:0≤i) (i1:i≤r.Samples.length):a1u r i=some (o5 r i):=by
 have a3:=h.f0
 have a4:=h.f1
 unfold a1u
 rw [y8 (by omega) (by omega),a1N,h.timeV i0 i1]
 rfl
def a7q (r:Record) (a b:Nat):Record:=⟨r.Source,r.Start,r.First+a,r.Rate,r.Error,r.Run,r.Seq,(r.Samples.take b).drop a⟩
theorem a8P (r:Record) (a b:Nat) (i:Int):o5 (a7q r a b) i=o5 r (a+i):=by
 simp only [o5,a7q]
 rw [show r.First+(a:Int)+i=r.First+(a+i) by omega]
theorem b0k (r:Record) (a b:Nat) (hb:b≤r.Samples.length):(a7q r a b).Samples.length=b - a:=by
 simp [a7q];omega
theorem RF.sub {r:Record} (h:RF r) {a b:Nat} (hab:a<b) (hb:b≤r.Samples.length):RF (a7q r a b):=by
 have hl:=b0k r a b hb
 have l1:=h.l1
 have f0:=h.f0
 have f1:=h.f1
 have ht:=h.mono (i:=b) (j:=r.Samples.length) (by omega)
 have te:=h.te
 refine ⟨h.src,by omega,by omega,by simp only [a7q];omega,by rw [hl];simp only [a7q];omega,h.e0,h.e1,h.r0,h.r1,h.q0,h.q1,h.rv,h.s0,h.s1,?_,?_⟩
 ·have e:=a8P r a b ((a7q r a b).Samples.length)
  rw [hl] at e
  have e2:(a:Int)+((b - a:Nat):Int)=b:=by omega
  rw [e2] at e
  rw [hl]
  unfold o5 at e ht
  rw [e]
  omega
 ·rw [b0g]
  intro x hx
  exact b0g.1 h.smp x (List.mem_of_mem_take (List.mem_of_mem_drop hx))
end Go.Proofs.YtdcafiefjakfeaaGreat.Sh
namespace Go.Proofs.YtdcafiefjakfeaaGreat.Sh
open Go
set_option linter.unusedVariables false
set_option linter.unusedSimpArgs false
theorem a8J (s:List Int) (h:s.length≤1000000):K7 s=some s:=by
 unfold K7
 rw [E5 _ _ _ (by simpa using h) (by decide)]
 rfl
theorem sub_eq {r:Record} (h:RF r) {a b:Nat} (hab:a≤b) (hb:b≤r.Samples.length):a6a r a b=some (a7q r a b):=by
 have f0:=h.f0
 have f1:=h.f1
 have l1:=h.l1
 unfold a6a
 rw [a4N _ _ _ hab hb]
 simp only [Option.bind]
 rw [a8J _ (by simp;omega),y8 (x:=r.First+(a:Int)) (by omega) (by omega)]
 rfl
theorem Sub_eq {r:Record} (h:RF r) {a b:Nat} (hab:a<b) (hb:b≤r.Samples.length):a7P r a b=some (a7q r a b,0):=by
 unfold a7P
 rw [h.valid]
 simp only [Option.bind,Bool.not_true,Bool.false_eq_true,if_false]
 rw [if_neg (by simp;omega),sub_eq h (by omega) hb]
theorem b6h (a b:List Int) (h:a.length≤1000000000):a0w a b=some (decide (a=b)):=by
 unfold a0w
 by_cases hl:a.length=b.length
 ·rw [if_neg (by simp [hl])]
  refine b0A a b (fun x y=>x == y) (fun x y=>by simp) hl (fun i hi he=>?_) (fun i hi he=>?_) ?_
  ·simp only [X3]
   rw [if_pos (decide_eq_true (by omega)),w9 _ _ hi,w9 _ _ (show i<b.length by omega)]
   simp only [Option.bind,bne,he,Bool.not_true,Bool.false_eq_true,if_false]
   rw [y8 (by omega) (by omega)]
   rfl
  ·simp only [X3]
   rw [if_pos (decide_eq_true (by omega)),w9 _ _ hi,w9 _ _ (show i<b.length by omega)]
   simp only [Option.bind,bne,he,Bool.not_false,if_true]
  ·simp only [X3]
   rw [if_neg (by simp)]
   rfl
 ·rw [if_pos (by simp;omega),decide_eq_false (fun h=>hl (by rw [h]))]
theorem b4W (a b:ByteArray):(a == b)=decide (a=b):=by
 cases a with | mk x=>cases b with | mk y=>
 show (x == y)=_
 rw [Bool.eq_iff_iff];simp
theorem b5B (a:ByteArray):(a == a)=true:=by rw [b4W,decide_eq_true rfl]
end Go.Proofs.YtdcafiefjakfeaaGreat.Sh
namespace Go.Proofs.YtdcafiefjakfeaaGreat.Sh
open Go
set_option linter.unusedVariables false
set_option linter.unusedSimpArgs false
theorem a9o (x y:Int):cmp_Compare_int x y=some (I4 x y):=by
 unfold cmp_Compare_int cmp_isNaN_int I4
 simp only [bne_self_eq_false,Option.bind,Bool.false_eq_true,if_false]
 by_cases h1:x<y
 ·simp [h1]
 ·by_cases h2:y<x
  ·simp [h1,h2]
  ·simp [h1,h2]
theorem b2y (x y:ByteArray):Q4 x y=some (a8h x y):=by
 unfold Q4 cmp_isNaN_string
 rw [b1M]
 simp only [beq_self_eq_true,Bool.not_true,Option.bind,Bool.false_eq_true,if_false]
 cases Op.bytesLess x.toList y.toList
 ·cases (x.toList == y.toList) <;> simp
 ·simp
theorem b0D (l:List Int) (hl:l.length≤1000000):a4G l=some (orL l):=by
 unfold a4G
 have key:∀ m,m≤l.length→l9 (a4O l) ((l.length - m:Nat):Int)=some (orL (l.drop (l.length - m))):=by
  intro m
  induction m with
  | zero=>
   intro _
   rw [G8,Nat.sub_zero]
   unfold a4O
   rw [if_neg (by simp)]
   simp [orL]
  | succ m ih=>
   intro hm
   have ih:=ih (by omega)
   rw [show l.length - m=l.length - (m+1)+1 by omega] at ih
   have hi:l.length - (m+1)<l.length:=by omega
   rw [G8]
   unfold a4O
   rw [if_pos (decide_eq_true (by omega)),w9 _ _ hi,List.drop_eq_getElem_cons hi]
   simp only [Option.bind,orL]
   by_cases hx:l[l.length - (m+1)]=0
   ·rw [if_neg (by simp [hx]),if_neg (by omega),y8 (by omega) (by omega)]
    exact ih
   ·rw [if_pos (by simpa using hx),if_pos hx]
 have:=key l.length (Nat.le_refl _)
 rw [Nat.sub_self] at this
 exact this
theorem b5d (a b:List Int) (ha:a.length≤1000000000):Y8 a b=some (a0y I4 a b):=by
 unfold Y8
 have key:∀ m,m≤a.length→a.length - m≤b.length→l9 (I5 a b) ((a.length - m:Nat):Int)=some (a0y I4 (a.drop (a.length - m)) (b.drop (a.length - m))):=by
  intro m
  induction m with
  | zero=>
   intro _ hb
   rw [G8,Nat.sub_zero]
   unfold I5
   rw [if_neg (by simp)]
   simp only [Option.map,Option.bind,List.drop_length]
   by_cases hl:a.length<b.length
   ·rw [if_pos (decide_eq_true (by omega)),List.drop_eq_getElem_cons hl]
    rfl
   ·rw [if_neg (by simpa using hl),List.drop_eq_nil_of_le (by omega)]
    rfl
  | succ m ih=>
   intro hm hb
   have hi:a.length - (m+1)<a.length:=by omega
   obtain ⟨i,hie⟩:∃ i,a.length - (m+1)=i:=⟨_,rfl⟩
   have hm2:a.length - m=i+1:=by omega
   rw [hie] at hi hb ⊢
   by_cases hl:i<b.length
   ·have ih:=ih (by omega) (by omega)
    rw [hm2] at ih
    have step:I5 a b (i:Int)=if I4 a[i] b[i]=0 then some (.inl ((i+1:Nat):Int)) else some (.inr (I4 a[i] b[i])):=by
     unfold I5
     rw [if_pos (decide_eq_true (by omega)),w9 _ _ hi]
     simp only [Option.bind]
     rw [if_neg (by simp;omega),w9 _ _ hl]
     simp only [a9o]
     by_cases hx:I4 a[i] b[i]=0
     ·rw [if_neg (by simp [hx]),if_pos hx,y8 (by omega) (by omega)]
      rfl
     ·rw [if_pos (by simpa using hx),if_neg hx]
    rw [G8,step,List.drop_eq_getElem_cons hi,List.drop_eq_getElem_cons hl]
    simp only [a0y]
    by_cases hx:I4 a[i] b[i]=0
    ·rw [if_pos hx,if_neg (by omega)]
     exact ih
    ·rw [if_neg hx,if_pos hx]
     rfl
   ·have step:I5 a b (i:Int)=some (.inr 1):=by
     unfold I5
     rw [if_pos (decide_eq_true (by omega)),w9 _ _ hi]
     simp only [Option.bind]
     rw [if_pos (decide_eq_true (by omega))]
    rw [G8,step,List.drop_eq_getElem_cons hi,List.drop_eq_nil_of_le (by omega:b.length≤i)]
    rfl
 have:=key a.length (Nat.le_refl _) (by omega)
 rw [Nat.sub_self] at this
 exact this
def a5R (a b:SourceID):Int:=andThen (fun a b=>a8h a.Network b.Network) (andThen (fun a b=>a8h a.Station b.Station) (andThen (fun a b=>a8h a.Location b.Location) (fun a b=>a8h a.Channel b.Channel))) a b
theorem b1N:Cmp a5R:=(a9L.by (fun s:SourceID=>s.Network)).andThen ((a9L.by (fun s:SourceID=>s.Station)).andThen ((a9L.by (fun s:SourceID=>s.Location)).andThen (a9L.by (fun s:SourceID=>s.Channel))))
theorem b6d {a b:SourceID} (h:a5R a b=0):a=b:=by
 unfold a5R andThen at h
 have h1:a8h a.Network b.Network=0:=Classical.byContradiction fun hn=>by rw [if_pos hn] at h;exact hn h
 rw [if_neg (by omega)] at h
 have h2:a8h a.Station b.Station=0:=Classical.byContradiction fun hn=>by rw [if_pos hn] at h;exact hn h
 rw [if_neg (by omega)] at h
 have h3:a8h a.Location b.Location=0:=Classical.byContradiction fun hn=>by rw [if_pos hn] at h;exact hn h
 rw [if_neg (by omega)] at h
 cases a;cases b
 simp only [SourceID.mk.injEq]
 exact ⟨b1B h1,b1B h2,b1B h3,b1B h⟩
theorem b0h (a b:SourceID):a4u a b=some (a5R a b):=by
 unfold a4u
 simp only [b2y,Option.bind]
 rw [b0D _ (by simp)]
 simp only [orL,a5R,andThen,Option.some.injEq]
 split
 ·rfl
 ·split
  ·rfl
  ·split
   ·rfl
   ·split <;> omega
def a3q (r:Record):Int:=if a5m r=true then o5 r 0 else 0
structure RSm (r:Record):Prop where
 src:SrcSm r.Source
 len:r.Samples.length≤1000000000
theorem RF.sm {r:Record} (h:RF r):RSm r:=⟨a7V h.src,by have:=h.l1;omega⟩
theorem b4e {r:Record} (h:RSm r):a4g r=some (a3q r):=by
 unfold a4g a3q
 rw [a1W h.src h.len]
 simp only [Option.bind]
 by_cases hb:a5m r=true
 ·have hr:=R5.1 hb
  rw [hb,a2B hr (Int.le_refl 0) (by omega)]
  rfl
 ·simp only [Bool.not_eq_true] at hb
  rw [hb];rfl
def I7 (a b:Record):Int:=
 andThen (fun a b=>a5R a.Source b.Source) (andThen (fun a b=>I4 (a3q a) (a3q b)) (andThen (fun a b=>I4 a.Start b.Start) (andThen (fun a b=>I4 a.First b.First) (andThen (fun a b=>I4 a.Rate.Num b.Rate.Num)
  (andThen (fun a b=>I4 a.Rate.Den b.Rate.Den) (andThen (fun a b=>I4 a.Error b.Error) (andThen (fun a b=>I4 a.Run b.Run) (andThen (fun a b=>I4 a.Seq b.Seq) (andThen (fun a b=>I4 a.Samples.length b.Samples.length) (fun a b=>a0y I4 a.Samples b.Samples)))))))))) a b
theorem P9:Cmp I7:=
 (b1N.by (fun r:Record=>r.Source)).andThen ((M3.by a3q).andThen ((M3.by (fun r:Record=>r.Start)).andThen ((M3.by (fun r:Record=>r.First)).andThen ((M3.by (fun r:Record=>r.Rate.Num)).andThen
  ((M3.by (fun r:Record=>r.Rate.Den)).andThen ((M3.by (fun r:Record=>r.Error)).andThen ((M3.by (fun r:Record=>r.Run)).andThen ((M3.by (fun r:Record=>r.Seq)).andThen ((M3.by (fun r:Record=>(r.Samples.length:Int))).andThen ((b1U M3).by (fun r:Record=>r.Samples)))))))))))
theorem O4 {α:Type} {c d:α→α→Int} {a b:α} (h:andThen c d a b=0):c a b=0∧d a b=0:=by
 unfold andThen at h
 split at h
 ·next hn=>exact absurd h hn
 ·next hn=>exact ⟨by omega,h⟩
theorem a1v {a b:Record} (h:I7 a b=0):a=b:=by
 obtain ⟨h1,h⟩:=O4 h
 obtain ⟨h2,h⟩:=O4 h
 obtain ⟨h3,h⟩:=O4 h
 obtain ⟨h4,h⟩:=O4 h
 obtain ⟨h5,h⟩:=O4 h
 obtain ⟨h6,h⟩:=O4 h
 obtain ⟨h7,h⟩:=O4 h
 obtain ⟨h8,h⟩:=O4 h
 obtain ⟨h9,h⟩:=O4 h
 obtain ⟨h10,h⟩:=O4 h
 have e1:=b6d h1
 have e3:=Y1 h3
 have e4:=Y1 h4
 have e5:=Y1 h5
 have e6:=Y1 h6
 have e7:=Y1 h7
 have e8:=Y1 h8
 have e9:=Y1 h9
 have e11:=b1E (fun _ _=>Y1) _ _ h
 obtain ⟨a1,a2,a3,⟨a4,a5⟩,a6,a7,a8,a9⟩:=a
 obtain ⟨b1,b2,b3,⟨b4,b5⟩,b6,b7,b8,b9⟩:=b
 simp only at e1 e3 e4 e5 e6 e7 e8 e9 e11
 subst e1 e3 e4 e5 e6 e7 e8 e9 e11
 rfl
theorem a2t {a b:Record} (ha:RSm a) (hb:RSm b):J8 a b=some (I7 a b):=by
 unfold J8
 rw [b0h,b4e ha,b4e hb,b5d _ _ ha.len]
 simp only [a9o,Option.bind]
 rw [b0D _ (by simp)]
 simp only [orL,I7,andThen,Option.some.injEq]
 repeat' (first | rfl | (split <;> (try rfl)))
 all_goals omega
def a8R (a b:Record):Int:=andThen (fun a b=>I4 a.Error b.Error) (andThen (fun a b=>I4 b.Run a.Run) (andThen (fun a b=>I4 b.Seq a.Seq) I7)) a b
theorem b4f:Cmp a8R:=(M3.by (fun r:Record=>r.Error)).andThen ((M3.by (fun r:Record=>r.Run)).rev.andThen ((M3.by (fun r:Record=>r.Seq)).rev.andThen P9))
theorem b5Y {a b:Record} (h:a8R a b=0):a=b:=by
 obtain ⟨_,h⟩:=O4 h
 obtain ⟨_,h⟩:=O4 h
 obtain ⟨_,h⟩:=O4 h
 exact a1v h
theorem b0I {a b:Record} (ha:RSm a) (hb:RSm b):a4S a b=some (decide (a8R a b<0)):=by
 unfold a4S
 rw [a2t ha hb]
 simp only [a9o,Option.bind]
 rw [b0D _ (by simp)]
 have e:orL [I4 a.Error b.Error,I4 b.Run a.Run,I4 b.Seq a.Seq,I7 a b]=a8R a b:=by
  simp only [orL,a8R,andThen]
  repeat' (first | rfl | (split <;> (try rfl)))
  all_goals omega
 rw [e]
open Classical in
theorem b2c {a b:Record} (ha:RSm a):a1t a b=some (decide (a=b)):=by
 unfold a1t
 rw [b6h _ _ ha.len]
 simp only [b4W,Bool.and_true]
 obtain ⟨⟨s1,s2,s3,s4⟩,a2,a3,⟨a4,a5⟩,a6,a7,a8,a9⟩:=a
 obtain ⟨⟨t1,t2,t3,t4⟩,b2,b3,⟨b4,b5⟩,b6,b7,b8,b9⟩:=b
 simp only [Record.mk.injEq,SourceID.mk.injEq,Rate.mk.injEq,Option.bind]
 by_cases c1:s1=t1 <;> by_cases c2:s2=t2 <;> by_cases c3:s3=t3 <;> by_cases c4:s4=t4 <;> try (simp [c1,c2,c3,c4];done)
 by_cases c5:a2=b2 <;> by_cases c6:a3=b3 <;> by_cases c7:a4=b4 <;> by_cases c8:a5=b5 <;> try (simp [c5,c6,c7,c8];done)
 by_cases c9:a6=b6 <;> by_cases c10:a7=b7 <;> by_cases c11:a8=b8 <;> simp [c1,c2,c3,c4,c5,c6,c7,c8,c9,c10,c11]
end Go.Proofs.YtdcafiefjakfeaaGreat.Sh
namespace Go.Proofs.YtdcafiefjakfeaaGreat.Sh
open Go
set_option linter.unusedVariables false
set_option linter.unusedSimpArgs false
structure VL (l:List Record):Prop where
 rf:∀ r∈l,RF r
 src:∀ r∈l,∀ q∈l,r.Source=q.Source
theorem VL.sub {l m:List Record} (h:VL l) (hm:∀ r∈m,r∈l):VL m:=⟨fun r hr=>h.rf r (hm r hr),fun r hr q hq=>h.src r (hm r hr) q (hm q hq)⟩
theorem b5X {l:List Record} (h:VL l) {r:Record} (hr:r∈l):P7 r l=some false:=by
 unfold P7
 rw [(h.rf r hr).valid]
 simp only [Option.bind_some,Bool.not_true,Bool.false_eq_true,if_false]
 cases l with
 | nil=>cases hr
 | cons a l=>
  rw [show ix (a :: l) 0=some a from rfl]
  have:=h.src r hr a List.mem_cons_self
  simp only [Option.bind_some]
  rw [this]
  simp only [b5B,Bool.and_self,Bool.not_true]
theorem alike_ok {l:List Record} (h:VL l) (hl:l.length≤1000000):a2b l=some true:=by
 unfold a2b F9 J3
 have:l9 (D5 l (fun y0=>P7 y0 l)) 0=some (-1):=by
  refine D9 (fun i=>(i:Int)) l.length _ rfl (fun i hi=>?_) ?_
  ·unfold D5
   rw [if_pos (decide_eq_true (by omega)),w9 _ _ hi]
   simp only [Option.bind_some]
   rw [b5X h (List.getElem_mem hi)]
   simp only [Option.bind_some,Bool.false_eq_true,if_false]
   rw [G7 (by omega)]
  ·unfold D5
   rw [if_neg (by simp)]
   rfl
 rw [this]
 rfl
theorem b0l {l:List Record} (h:VL l) (hl:l.length≤256):V6 l=some true:=by
 unfold V6
 rw [if_pos (decide_eq_true (by omega)),alike_ok h (by omega)]
 rfl
def rec0:Record:=⟨(⟨ByteArray.empty,ByteArray.empty,ByteArray.empty,ByteArray.empty⟩:SourceID),0,0,(⟨0,0⟩:Rate),0,0,0,([]:List Int)⟩
theorem b4k (l:List Record):M5 l a1t=a6X rec0 a1t l:=rfl
theorem a9K {x y:Record} (h1:decide (I7 x y<0)=false) (h2:decide (I7 y x<0)=false):x=y:=by
 simp only [decide_eq_false_iff_not] at h1 h2
 have:=P9.anti x y
 exact a1v (by omega)
theorem b5s {l:List Record} (hs:∀ r∈l,RSm r) (hl:l.length≤1000000):∃ m,H6 l J8=some m∧m.Perm l∧m.Pairwise (fun s t=>I7 s t≤0):=by
 have hok:CmpOK RSm J8 (fun x y=>decide (I7 x y<0)):=P9.ok fun x y hx hy=>a2t hx hy
 obtain ⟨m,em,hp,hn,hsr⟩:=b0T hok hs (by omega)
 refine ⟨m,?_,hp,?_⟩
 ·show b2u l J8=some m
  rw [b4N hok hs (fun x y _ _ h1 h2=>a9K h1 h2),em]
 ·rw [← hn] at hsr
  exact hsr.cpw P9
theorem b4y {l:List Record} (h:VL l) (hl:l.length≤1000):a3r l=some (K6 I7 l):=by
 unfold a3r L9
 rw [E5 _ _ _ (by simp;omega) (by decide)]
 simp only [Option.bind_some,List.nil_append]
 have hw:l9 (a2P l) (l,0)=some l:=by
  refine D9 (fun i=>(l,(i:Int))) l.length _ rfl (fun i hi=>?_) ?_
  ·have hr:=h.rf _ (List.getElem_mem hi)
   have l1:=hr.l1
   unfold a2P
   simp only
   rw [if_pos (decide_eq_true (by omega)),w9 _ _ hi]
   simp only [Option.bind_some]
   rw [a8J _ (by omega)]
   simp only [Option.bind_some]
   rw [a5H _ _ _ (by omega) (by omega),G7 (by omega)]
   simp only [Option.bind_some,Int.toNat_natCast]
   have e:(⟨l[i].Source,l[i].Start,l[i].First,l[i].Rate,l[i].Error,l[i].Run,l[i].Seq,l[i].Samples⟩:Record)=l[i]:=rfl
   rw [e,List.set_getElem_self]
  ·unfold a2P
   simp only
   rw [if_neg (by simp)]
 rw [hw]
 simp only [Option.bind_some]
 have hs:∀ r∈l,RSm r:=fun r hr=>(h.rf r hr).sm
 have hok:CmpOK RSm J8 (fun x y=>decide (I7 x y<0)):=P9.ok fun x y hx hy=>a2t hx hy
 open Classical in
 obtain ⟨m,e1,e2⟩:=b3R P9 (fun _ _=>a1v) (f:=J8) (g:=a1t) (eq:=fun a b=>decide (a=b)) rec0 (l:=l) (P:=RSm) hs (fun x y hx hy=>a2t hx hy) (fun x y hx _=>b2c hx) (fun x y _ _=>by simp) (by omega)
 have e1':H6 l J8=some m:=by
  show b2u l J8=some m
  rw [b4N hok hs (fun x y _ _ h1 h2=>a9K h1 h2),e1]
 rw [e1']
 simp only [Option.bind_some]
 rw [b4k,e2]
 rfl
theorem at_ok {r:Record} (h:RF r) {i:Int} (i0:0≤i) (i1:i≤r.Samples.length):a4H r i=some (o5 r i):=by
 have f0:=h.f0;have f1:=h.f1
 unfold a4H
 rw [y8 (by omega) (by omega),a1N,h.timeV i0 i1]
 rfl
def a6m (r:Record):Span:=⟨o5 r 0,o5 r r.Samples.length⟩
theorem b2Q {r:Record} (h:RF r):a2y r=some (a6m r):=by
 unfold a2y
 rw [at_ok h (Int.le_refl 0) (by omega),at_ok h (by omega) (Int.le_refl _)]
 rfl
theorem RF.lt {r:Record} (h:RF r) {i j:Int} (hij:i<j):o5 r i<o5 r j:=by
 have n0:=h.rv.n0;have n1:=h.rv.n1;have d0:=h.rv.d0
 have h1:o5 r i<o5 r (i+1):=by
  unfold o5
  have e:(r.First+(i+1)) * (r.Rate.Den * 1000000)=(r.First+i) * (r.Rate.Den * 1000000)+r.Rate.Den * 1000000:=by
   rw [← Int.add_assoc,Int.add_mul,Int.one_mul]
  have h2:(r.First+i) * (r.Rate.Den * 1000000)+r.Rate.Num * 1≤(r.First+(i+1)) * (r.Rate.Den * 1000000):=by rw [e];omega
  have h3:=Int.ediv_le_ediv (show 0<r.Rate.Num by omega) h2
  rw [Int.add_mul_ediv_left _ _ (show r.Rate.Num≠0 by omega)] at h3
  omega
 exact Int.lt_of_lt_of_le h1 (h.mono (by omega))
def a1p (r:Record) (n:Nat):List Int:=(List.range n).map fun (i:Nat)=>o5 r (i:Int)
theorem a8I (r:Record) (n:Nat):a1p r (n+1)=a1p r n ++ [o5 r (n:Int)]:=by simp [a1p,List.range_succ]
theorem times_ok {r:Record} (h:RF r):a4P r=some (a1p r (r.Samples.length+1)):=by
 have l1:=h.l1
 unfold a4P
 have:l9 (a2R r) (([]:List Int),0)=some (a1p r (r.Samples.length+1)):=by
  refine D9 (fun i=>(a1p r i,(i:Int))) (r.Samples.length+1) _ rfl (fun i hi=>?_) ?_
  ·unfold a2R
   simp only
   rw [G7 (by omega),if_pos (decide_eq_true (by omega)),at_ok h (by omega) (by omega)]
   simp only [Option.bind_some]
   rw [E5 _ _ _ (by simp [a1p];omega) (by decide),G7 (by omega),a8I]
   rfl
  ·unfold a2R
   simp only
   rw [G7 (by omega),if_neg (by simp)]
 rw [this]
 rfl
def meets (r:Record) (i:Nat) (s:Span):Bool:=decide (s.From<o5 r ((i:Int)+1)) && decide (o5 r (i:Int)<s.To)
def a6w (r:Record) (better:List Span) (i:Nat):Bool:=better.all fun s=>!(meets r i s)
def a7f (r:Record) (better:List Span) (n:Nat):List Bool:=(List.range n).map (a6w r better)
theorem b5c (r:Record) (better:List Span) (n:Nat):a7f r better (n+1)=a7f r better n ++ [a6w r better n]:=by simp [a7f,List.range_succ]
theorem b3i (r:Record) {i n:Nat} (h:i<n):ix (a1p r n) (i:Int)=some (o5 r (i:Int)):=by
 rw [w9 _ _ (by simpa [a1p] using h)]
 simp [a1p]
theorem kept_ok {r:Record} (h:RF r) {better:List Span} (hv:VS better) (hb:better.length≤100000):a5C r better=some (a7f r better r.Samples.length):=by
 have l1:=h.l1
 unfold a5C
 rw [times_ok h]
 simp only [Option.bind_some]
 rw [b4v _ _ _ (by omega) (by omega) (by decide)]
 simp only [Option.bind_some,Int.toNat_natCast]
 obtain ⟨n,hn⟩:∃ n,r.Samples.length=n:=⟨_,rfl⟩
 rw [hn]
 suffices key:∃ o,l9 (a1V better (a1p r (n+1)) (List.replicate n false)) (List.replicate n false,0,0)=some o∧o=a7f r better n by
  obtain ⟨o,eo,ho⟩:=key
  rw [eo,ho]
  rfl
 refine Y3 (body:=a1V better (a1p r (n+1)) (List.replicate n false)) (fun (a:List Bool × Nat) i=>(a.1,(a.2:Int),i)) n
  (fun i a=>a.1=a7f r better i ++ List.replicate (n - i) false∧a.2≤better.length∧∀ j (hj:j<better.length),j<a.2→better[j].To≤o5 r (i:Int))
  (fun o=>o=a7f r better n) (fun i hi a ⟨g1,g2,g3⟩=>?_) (fun a ⟨g1,g2,g3⟩=>?_) (List.replicate n false,0) ⟨by simp [a7f],Nat.zero_le _,fun j _ hj=>by omega⟩
 ·obtain ⟨out,k⟩:=a
  simp only at g1 g2 g3
  obtain ⟨k',ek,q,hq,k1,k2,k3⟩:=a4d (b1:=a5p better (a1p r (n+1)) (out,(k:Int),(i:Int)))
   (fun m s=>∃ q:Nat,s=(q:Int)∧m+q=better.length∧q≤better.length∧∀ j (hj:j<better.length),j<q→better[j].To≤o5 r (i:Int))
   (fun s=>∃ q:Nat,s=(q:Int)∧q≤better.length∧(∀ j (hj:j<better.length),j<q→better[j].To≤o5 r (i:Int))∧(q=better.length∨∃ hj:q<better.length,o5 r (i:Int)<better[q].To)) (by
    rintro m s ⟨q,rfl,hm,q1,q2⟩
    unfold a5p
    simp only
    by_cases hlt:q<better.length
    ·rw [if_pos (decide_eq_true (by omega)),w9 _ _ hlt,b3i r (by omega)]
     simp only [Option.bind_some]
     by_cases hc:better[q].To≤o5 r (i:Int)
     ·left
      rw [if_pos (decide_eq_true hc),G7 (by omega)]
      refine ⟨_,m - 1,rfl,⟨q+1,rfl,by omega,by omega,fun j hj hjq=>?_⟩,by omega⟩
      by_cases e:j=q
      ·subst e;exact hc
      ·exact q2 j hj (by omega)
     ·right
      rw [if_neg (by simpa using hc)]
      exact ⟨_,rfl,q,rfl,q1,q2,.inr ⟨hlt,by omega⟩⟩
    ·right
     rw [if_neg (by simp;omega)]
     simp only [Option.bind_some,Bool.false_eq_true,if_false]
     exact ⟨_,rfl,q,rfl,q1,q2,.inl (by omega)⟩) (better.length - k) (k:Int) ⟨k,rfl,by omega,g2,g3⟩
  subst hq
  have hol:out.length=n:=by rw [g1];simp [a7f];omega
  have hkb:(if ((q:Int) == (better.length:Int))=true then some true else (ix better (q:Int)).bind fun x798=>(ix (a1p r (n+1)) (w64 ((i:Int)+1))).bind fun x811=>some (decide (x811≤x798.From)))=some (a6w r better i):=by
   rcases k3 with k3 | ⟨hj,k3⟩
   ·rw [if_pos (by simp [k3])]
    have:a6w r better i=true:=by
     unfold a6w
     rw [List.all_eq_true]
     intro s hs
     obtain ⟨j,hj,e⟩:=List.mem_iff_getElem.1 hs
     have:=k2 j hj (by omega)
     rw [e] at this
     unfold meets
     rw [decide_eq_false (show ¬ o5 r (i:Int)<s.To by omega)]
     simp
    rw [this]
   ·rw [if_neg (by simp;omega),w9 _ _ hj,G7 (by omega),b3i r (by omega)]
    simp only [Option.bind_some,Option.some.injEq]
    have e1:((i+1:Nat):Int)=(i:Int)+1:=by omega
    rw [e1]
    by_cases hc:o5 r ((i:Int)+1)≤better[q].From
    ·rw [decide_eq_true hc]
     symm
     unfold a6w
     rw [List.all_eq_true]
     intro s hs
     obtain ⟨j,hjl,e⟩:=List.mem_iff_getElem.1 hs
     unfold meets
     rcases Nat.lt_trichotomy j q with hlt | heq | hgt
     ·have:=k2 j hjl hlt
      rw [e] at this
      rw [decide_eq_false (show ¬ o5 r (i:Int)<s.To by omega)]
      simp
     ·subst heq
      rw [e] at hc
      rw [decide_eq_false (show ¬ s.From<o5 r ((i:Int)+1) by omega)]
      simp
     ·have h1:=List.pairwise_iff_getElem.1 hv.ap q j hj hjl hgt
      have h2:=hv.ne _ (List.getElem_mem hj)
      rw [e] at h1
      rw [decide_eq_false (show ¬ s.From<o5 r ((i:Int)+1) by omega)]
      simp
    ·rw [decide_eq_false hc]
     symm
     unfold a6w
     rw [List.all_eq_false]
     refine ⟨better[q],List.getElem_mem hj,?_⟩
     unfold meets
     rw [decide_eq_true (show better[q].From<o5 r ((i:Int)+1) by omega),decide_eq_true k3]
     simp
  unfold a1V
  simp only
  rw [if_pos (decide_eq_true (by simp;omega)),ek]
  simp only [Option.bind_some]
  rw [hkb]
  simp only [Option.bind_some]
  rw [w9 out i (by omega)]
  simp only [Option.bind_some]
  rw [a5H _ _ _ (by omega) (by omega),G7 (by omega)]
  simp only [Option.bind_some,Int.toNat_natCast]
  refine ⟨(out.set i (a6w r better i),q),rfl,?_,k1,fun j hj hjq=>?_⟩
  ·simp only
   have hkl:(a7f r better i).length=i:=by simp [a7f]
   rw [g1,b5c,List.set_append,if_neg (by omega),hkl,Nat.sub_self]
   have:List.replicate (n - i) false=false :: List.replicate (n - (i+1)) false:=by
    rw [show n - i=n - (i+1)+1 by omega,List.replicate_succ]
   rw [this,List.set_cons_zero,List.append_assoc]
   rfl
  ·have:=k2 j hj hjq
   have:=h.mono (i:=(i:Int)) (j:=((i+1:Nat):Int)) (by omega)
   omega
 ·obtain ⟨out,k⟩:=a
  simp only at g1
  unfold a1V
  simp only
  rw [if_neg (by simp)]
  refine ⟨_,rfl,?_⟩
  rw [g1]
  simp
end Go.Proofs.YtdcafiefjakfeaaGreat.Sh
namespace Go.Proofs.YtdcafiefjakfeaaGreat.Sh
open Go
set_option linter.unusedVariables false
set_option linter.unusedSimpArgs false
structure RunsOf (k:Nat→Bool) (n:Nat) (P:List (Nat × Nat)):Prop where
 ok:∀ p∈P,p.1<p.2∧p.2≤n∧(∀ i,p.1≤i→i<p.2→k i=true)∧(p.2=n∨k p.2=false)
 asc:P.Pairwise (fun p q=>p.2<q.1)
 all:∀ i,i<n→k i=true→∃ p∈P,p.1≤i∧i<p.2
def a1o (r:Record) (P:List (Nat × Nat)):List Record:=P.map fun p=>a7q r p.1 p.2
theorem runs_ok {r:Record} (h:RF r) (k:Nat→Bool):∃ P,a2Q r ((List.range r.Samples.length).map k)=some (a1o r P)∧RunsOf k r.Samples.length P∧P.length≤r.Samples.length+1:=by
 have l1:=h.l1
 obtain ⟨n,hn⟩:∃ n,r.Samples.length=n:=⟨_,rfl⟩
 rw [hn]
 have hkl:((List.range n).map k).length=n:=by simp
 have hka:∀ i (hi:i<n),ix ((List.range n).map k) (i:Int)=some (k i):=fun i hi=>by
  rw [w9 _ _ (by simpa using hi)];simp
 unfold a2Q
 suffices hs:∃ o,l9 (a5q r ((List.range n).map k)) (([]:List Record),0)=some o∧∃ P,o=a1o r P∧RunsOf k n P∧P.length≤n+1 by
  obtain ⟨o,eo,P,hP,h1,h2⟩:=hs
  rw [eo]
  exact ⟨P,by rw [hP];rfl,h1,h2⟩
 refine a4d (fun m s=>∃ (q:Nat) (P:List (Nat × Nat)),s=(a1o r P,(q:Int))∧m+q=n+1∧q≤n+1∧P.length≤q∧(∀ p∈P,p.1<p.2∧p.2≤n∧(∀ i,p.1≤i→i<p.2→k i=true)∧(p.2=n∨k p.2=false)∧p.2<q)∧P.Pairwise (fun p q=>p.2<q.1)∧∀ i,i<n→i<q→k i=true→∃ p∈P,p.1≤i∧i<p.2) _ ?_ (n+1) _ ⟨0,[],rfl,rfl,Nat.zero_le _,Nat.le_refl _,by simp,List.Pairwise.nil,fun i _ hi=>by omega⟩
 rintro m s ⟨q,P,rfl,hm,hq,hPl,h1,h2,h3⟩
 unfold a5q
 simp only [hkl]
 by_cases hqn:q<n
 ·left
  rw [if_pos (decide_eq_true (by omega))]
  obtain ⟨o,eo,t,ht,t1,t2,t3,t4⟩:=a4d (b1:=a5r ((List.range n).map k))
   (fun m s=>∃ t:Nat,s=(t:Int)∧m+t=n∧q≤t∧t≤n∧∀ i,q≤i→i<t→k i=true)
   (fun o=>∃ t:Nat,o=(t:Int)∧q≤t∧t≤n∧(∀ i,q≤i→i<t→k i=true)∧(t=n∨k t=false)) (by
    rintro m s ⟨t,rfl,hm,t1,t2,t3⟩
    unfold a5r
    simp only [hkl]
    by_cases htn:t<n
    ·rw [if_pos (decide_eq_true (by omega)),hka t htn]
     simp only [Option.bind_some]
     by_cases hc:k t=true
     ·left
      rw [if_pos hc,G7 (by omega)]
      refine ⟨_,m - 1,rfl,⟨t+1,rfl,by omega,by omega,by omega,fun i hi hit=>?_⟩,by omega⟩
      by_cases e:i=t
      ·subst e;exact hc
      ·exact t3 i hi (by omega)
     ·right
      rw [if_neg hc]
      exact ⟨_,rfl,t,rfl,t1,t2,t3,.inr (by simpa using hc)⟩
    ·right
     rw [if_neg (by simp;omega)]
     simp only [Option.bind_some,Bool.false_eq_true,if_false]
     exact ⟨_,rfl,t,rfl,t1,t2,t3,.inl (by omega)⟩) (n - q) (q:Int) ⟨q,rfl,by omega,Nat.le_refl _,by omega,fun i h1 h2=>by omega⟩
  subst ht
  rw [eo]
  simp only [Option.bind_some]
  unfold a3D
  by_cases hc:q<t
  ·rw [if_pos (decide_eq_true (by omega)),Sub_eq h hc (by omega)]
   simp only [Option.bind_some]
   rw [E5 _ _ _ (by simp [a1o];omega) (by decide)]
   simp only [Option.bind_some]
   rw [G7 (by omega)]
   refine ⟨_,m - (t+1 - q),rfl,⟨t+1,P ++ [(q,t)],by simp [a1o],by omega,by omega,by simp;omega,fun p hp=>?_,?_,fun i hi hit hk=>?_⟩,by omega⟩
   ·rcases List.mem_append.1 hp with hp | hp
    ·obtain ⟨a,b,c,d,e⟩:=h1 p hp
     exact ⟨a,b,c,d,by omega⟩
    ·rcases List.mem_singleton.1 hp with rfl
     exact ⟨hc,t2,t3,t4,by simp⟩
   ·rw [List.pairwise_append]
    refine ⟨h2,List.pairwise_singleton _ _,fun a ha b hb=>?_⟩
    rcases List.mem_singleton.1 hb with rfl
    exact (h1 a ha).2.2.2.2
   ·by_cases hiq:i<q
    ·obtain ⟨p,hp,e⟩:=h3 i hi hiq hk
     exact ⟨p,List.mem_append_left _ hp,e⟩
    ·by_cases e:i=t
     ·subst e
      rcases t4 with t4 | t4
      ·omega
      ·rw [t4] at hk;cases hk
     ·exact ⟨(q,t),List.mem_append_right _ List.mem_cons_self,by simp only;omega,by simp only;omega⟩
  ·rw [if_neg (by simp;omega),G7 (by omega)]
   have e:t=q:=by omega
   subst e
   refine ⟨_,m - 1,rfl,⟨t+1,P,rfl,by omega,by omega,by omega,fun p hp=>?_,h2,fun i hi hit hk=>?_⟩,by omega⟩
   ·obtain ⟨a,b,c,d,e⟩:=h1 p hp
    exact ⟨a,b,c,d,by omega⟩
   ·by_cases e:i=t
    ·subst e
     rcases t4 with t4 | t4
     ·omega
     ·rw [t4] at hk;cases hk
    ·exact h3 i hi (by omega) hk
 ·right
  rw [if_neg (by simp;omega)]
  exact ⟨_,rfl,P,rfl,⟨fun p hp=>by obtain ⟨a,b,c,d,e⟩:=h1 p hp;exact ⟨a,b,c,d⟩,h2,fun i hi hk=>h3 i hi (by omega) hk⟩,by omega⟩
def V5 (all:List Record) (r:Record):List Span:=(all.filter fun b=>decide (a8R b r<0)).map a6m
def keepR (all:List Record) (r:Record) (i:Nat):Bool:=a6w r (V5 all r) i
theorem b2U {r:Record} (h:RF r) {i:Nat} {s:Span} (hs:s.From<s.To):meets r i s=true↔∃ y,o5 r (i:Int)≤y∧y<o5 r ((i:Int)+1)∧s.From≤y∧y<s.To:=by
 have hlt:=h.lt (i:=(i:Int)) (j:=(i:Int)+1) (by omega)
 unfold meets
 simp only [Bool.and_eq_true,decide_eq_true_eq]
 exact ⟨fun ⟨h1,h2⟩=>⟨max (o5 r (i:Int)) s.From,by omega,by omega,by omega,by omega⟩,fun ⟨y,a,b,c,d⟩=>⟨by omega,by omega⟩⟩
theorem a7e {r:Record} (h:RF r) {i:Nat} {l:List Span} (hs:∀ s∈l,s.From<s.To):a6w r l i=true↔∀ y,o5 r (i:Int)≤y→y<o5 r ((i:Int)+1)→¬ Mem l y:=by
 unfold a6w
 rw [List.all_eq_true]
 constructor
 ·rintro hk y h1 h2 ⟨s,hm,h3,h4⟩
  have:=hk s hm
  rw [(b2U h (hs s hm)).2 ⟨y,h1,h2,h3,h4⟩] at this
  cases this
 ·intro hk s hm
  cases hc:meets r i s with
  | false=>rfl
  | true=>
   obtain ⟨y,a,b,c,d⟩:=(b2U h (hs s hm)).1 hc
   exact absurd ⟨s,hm,c,d⟩ (hk y a b)
theorem keepB_ns {r:Record} (h:RF r) {l m:List Span} (hl:∀ s∈l,s.From<s.To) (hn:NS l m) (i:Nat):a6w r m i=a6w r l i:=by
 rw [Bool.eq_iff_iff,a7e h hl,a7e h hn.vs.ne]
 exact ⟨fun hk y a b hm=>hk y a b ((hn.mem y).2 hm),fun hk y a b hm=>hk y a b ((hn.mem y).1 hm)⟩
theorem extR_ne {r:Record} (h:RF r):(a6m r).From<(a6m r).To:=h.lt (by have:=h.l0;omega)
theorem a7x {all:List Record} (h:∀ r∈all,RF r) (r:Record):∀ s∈V5 all r,s.From<s.To:=fun s hs=>by
 obtain ⟨b,hb,rfl⟩:=List.mem_map.1 hs
 exact extR_ne (h b (List.mem_filter.1 hb).1)
open Classical in
noncomputable def b0f (all:List Record) (r:Record):List (Nat × Nat):=
 if h:∃ P,a2Q r ((List.range r.Samples.length).map (keepR all r))=some (a1o r P)∧RunsOf (keepR all r) r.Samples.length P∧P.length≤r.Samples.length+1 then Classical.choose h else []
theorem a0c (all:List Record) {r:Record} (h:RF r):a2Q r ((List.range r.Samples.length).map (keepR all r))=some (a1o r (b0f all r))∧RunsOf (keepR all r) r.Samples.length (b0f all r)∧(b0f all r).length≤r.Samples.length+1:=by
 have h0:=runs_ok h (keepR all r)
 unfold b0f
 rw [dif_pos h0]
 exact Classical.choose_spec h0
noncomputable def Q7 (all:List Record) (r:Record):List Record:=a1o r (b0f all r)
structure VS15 (l:List Record):Prop extends VL l where
 len:l.length≤100
 smp:∀ r∈l,r.Samples.length≤1000
theorem b5Z {all:List Record} (h:∀ r∈all,RF r) (hl:all.length≤1000) {r:Record} (hr:RF r):l9 (a1A all r) (([]:List Span),0)=some (V5 all r):=by
 refine D9 (fun i=>(V5 (all.take i) r,(i:Int))) all.length _ (by simp [V5]) (fun i hi=>?_) ?_
 ·have hb:=h _ (List.getElem_mem hi)
  have hlen:(V5 (all.take i) r).length≤i:=by
   unfold V5
   rw [List.length_map]
   exact Nat.le_trans (List.length_filter_le _ _) (List.length_take_le _ _)
  unfold a1A
  simp only
  rw [if_pos (decide_eq_true (by omega)),w9 _ _ hi]
  simp only [Option.bind_some]
  rw [b0I hb.sm hr.sm]
  simp only [Option.bind_some]
  unfold a1y
  have hone:V5 (all.take (i+1)) r=V5 (all.take i) r ++ if a8R all[i] r<0 then [a6m all[i]] else []:=by
   unfold V5
   rw [G6 hi,List.filter_append,List.map_append]
   by_cases hc:a8R all[i] r<0 <;> simp [hc]
  rw [hone]
  by_cases hc:a8R all[i] r<0
  ·rw [if_pos (decide_eq_true hc),b2Q hb,if_pos hc]
   simp only [Option.bind_some]
   rw [E5 _ _ _ (by simp;omega) (by decide)]
   simp only [Option.bind_some]
   rw [G7 (by omega)]
  ·rw [if_neg (by simpa using hc),if_neg hc]
   simp only
   rw [G7 (by omega),List.append_nil]
 ·unfold a1A
  simp only
  rw [if_neg (by simp),List.take_length]
theorem b2a {all:List Record} {r:Record} (h:RF r):∀ q∈Q7 all r,∃ a b:Nat,a<b∧b≤r.Samples.length∧q=a7q r a b∧(a,b)∈b0f all r:=fun q hq=>by
 obtain ⟨p,hp,rfl⟩:=List.mem_map.1 hq
 obtain ⟨a,b,_⟩:=(a0c all h).2.1.ok p hp
 exact ⟨p.1,p.2,a,b,rfl,hp⟩
theorem a0D {α β:Type} (f:α→List β) (k:Nat):∀ (l:List α),(∀ x∈l,(f x).length≤k)→(l.flatMap f).length≤k * l.length
 | [],_=>by simp
 | a :: l,h=>by
  have h1:=h a List.mem_cons_self
  have h2:=a0D f k l fun x hx=>h x (List.mem_cons_of_mem _ hx)
  rw [List.flatMap_cons,List.length_append,List.length_cons,Nat.mul_succ]
  omega
structure CompOf (l m:List Record):Prop where
 perm:m.Perm ((K6 I7 l).flatMap (Q7 (K6 I7 l)))
 asc:m.Pairwise (fun s t=>I7 s t≤0)
theorem a0n {l:List Record} {r:Record}:r∈K6 I7 l↔r∈l:=a3t fun _ _=>a1v
theorem comp_ok {l:List Record} (h:VS15 l):∃ m,a1U l=some m∧CompOf l m:=by
 have hl:=h.len
 unfold a1U
 rw [b4y h.toVL (by omega)]
 simp only [Option.bind_some]
 obtain ⟨A,hA⟩:∃ A,K6 I7 l=A:=⟨_,rfl⟩
 have hAl:A.length≤l.length:=by rw [← hA];exact a0T _ _
 have hAm:∀ r∈A,r∈l:=fun r hr=>a0n.1 (hA ▸ hr)
 have hAr:∀ r∈A,RF r:=fun r hr=>h.rf r (hAm r hr)
 rw [hA]
 have hw:l9 (a1z A) (([]:List Record),0)=some (A.flatMap (Q7 A)):=by
  refine D9 (fun i=>((A.take i).flatMap (Q7 A),(i:Int))) A.length _ (by simp) (fun i hi=>?_) ?_
  ·have hr:=hAr _ (List.getElem_mem hi)
   have hpl:∀ x∈A,(Q7 A x).length≤1001:=fun x hx=>by
    have h1:=(a0c A (hAr x hx)).2.2
    have h2:=h.smp x (hAm x hx)
    unfold Q7 a1o
    rw [List.length_map];omega
   have h1:=a0D (Q7 A) 1001 (A.take i) fun x hx=>hpl x (List.mem_of_mem_take hx)
   have h2:=hpl _ (List.getElem_mem hi)
   rw [List.length_take] at h1
   unfold a1z
   simp only
   rw [if_pos (decide_eq_true (by omega)),w9 _ _ hi]
   simp only [Option.bind_some]
   rw [b5Z hAr (by omega) hr]
   simp only [Option.bind_some]
   have hbl:(V5 A A[i]).length≤A.length:=by
    unfold V5
    rw [List.length_map]
    exact List.length_filter_le _ _
   obtain ⟨b,eb,hb⟩:=a6x (l:=V5 A A[i]) (by omega)
   rw [eb]
   simp only [Option.bind_some]
   rw [kept_ok hr hb.vs (by have:=hb.len;omega)]
   simp only [Option.bind_some]
   have hk:a7f A[i] b A[i].Samples.length=(List.range A[i].Samples.length).map (keepR A A[i]):=by
    unfold a7f
    exact List.map_congr_left fun j _=>keepB_ns hr (a7x hAr _) hb j
   rw [hk,(a0c A hr).1]
   simp only [Option.bind_some]
   rw [E5 _ _ _ (by
    have:(a1o A[i] (b0f A A[i])).length≤1001:=h2
    have:=Nat.mul_le_mul_left 1001 (show min i A.length≤100 by omega)
    omega) (by decide)]
   simp only [Option.bind_some]
   rw [G7 (by omega),G6 hi,List.flatMap_append,List.flatMap_singleton]
   rfl
  ·unfold a1z
   simp only
   rw [if_neg (by simp),List.take_length]
 rw [hw]
 simp only [Option.bind_some]
 have hsm:∀ q∈A.flatMap (Q7 A),RSm q:=fun q hq=>by
  obtain ⟨r,hr,hq⟩:=List.mem_flatMap.1 hq
  obtain ⟨a,b,h1,h2,rfl,_⟩:=b2a (hAr r hr) q hq
  exact ((hAr r hr).sub h1 h2).sm
 have hfl:=a0D (Q7 A) 1001 A fun x hx=>by
  have h1:=(a0c A (hAr x hx)).2.2
  have h2:=h.smp x (hAm x hx)
  unfold Q7 a1o
  rw [List.length_map];omega
 obtain ⟨m,em,h1,h2⟩:=b5s hsm (by have:=Nat.mul_le_mul_left 1001 (show A.length≤100 by omega);omega)
 rw [em]
 exact ⟨m,rfl,by rw [hA];exact h1,h2⟩
theorem b3l {l:List Record} (h:VS15 l):∃ m,a0z l=some (m,0)∧a1U l=some m∧CompOf l m:=by
 have hl:=h.len
 obtain ⟨m,em,hm⟩:=comp_ok h
 refine ⟨m,?_,em,hm⟩
 unfold a0z
 rw [b0l h.toVL (by omega)]
 simp only [Option.bind_some,Bool.not_true,Bool.false_eq_true,if_false]
 rw [em]
 rfl
theorem a9H {l:List Record} (h:VS15 l):a0U l=some (K6 I7 l,0):=by
 have hl:=h.len
 unfold a0U
 rw [b0l h.toVL (by omega)]
 simp only [Option.bind_some,Bool.not_true,Bool.false_eq_true,if_false]
 rw [b4y h.toVL (by omega)]
 rfl
theorem CompOf.uniq {l l' m m':List Record} (h:CompOf l m) (h':CompOf l' m') (he:K6 I7 l=K6 I7 l'):m=m':=by
 refine a6K (lt:=fun a b=>decide (I7 a b<0)) (h.perm.trans (he ▸ h'.perm.symm)) (fun a _ b _=>a9K) ?_ ?_
 ·refine h.asc.imp fun {a b} hab=>?_
  have:=P9.anti a b
  simp;omega
 ·refine h'.asc.imp fun {a b} hab=>?_
  have:=P9.anti a b
  simp;omega
end Go.Proofs.YtdcafiefjakfeaaGreat.Sh
namespace Go.Proofs.YtdcafiefjakfeaaGreat.Sh
open Go
set_option linter.unusedVariables false
set_option linter.unusedSimpArgs false
theorem RunsOf.mem {k:Nat→Bool} {n:Nat} {P Q:List (Nat × Nat)} (hP:RunsOf k n P) (hQ:RunsOf k n Q) {p:Nat × Nat} (hp:p∈P):p∈Q:=by
 obtain ⟨a1,a2,a3,a4⟩:=hP.ok p hp
 obtain ⟨q,hq,h1,h2⟩:=hQ.all p.1 (by omega) (a3 p.1 (Nat.le_refl _) a1)
 obtain ⟨b1,b2,b3,b4⟩:=hQ.ok q hq
 have e2:q.2=p.2:=by
  rcases Nat.lt_trichotomy q.2 p.2 with h | h | h
  ·have:=a3 q.2 (by omega) h
   rcases b4 with b4 | b4
   ·omega
   ·rw [b4] at this;cases this
  ·exact h
  ·have:=b3 p.2 (by omega) h
   rcases a4 with a4 | a4
   ·omega
   ·rw [a4] at this;cases this
 have e1:q.1=p.1:=by
  rcases Nat.lt_or_eq_of_le h1 with h | h
  ·exfalso
   obtain ⟨p',hp',h3,h4⟩:=hP.all q.1 (by omega) (b3 q.1 (Nat.le_refl _) b1)
   obtain ⟨c1,c2,c3,c4⟩:=hP.ok p' hp'
   obtain ⟨i,hi,ei⟩:=List.mem_iff_getElem.1 hp
   obtain ⟨j,hj,ej⟩:=List.mem_iff_getElem.1 hp'
   have hpw:=List.pairwise_iff_getElem.1 hP.asc
   rcases Nat.lt_trichotomy i j with hij | hij | hij
   ·have:=hpw i j hi hj hij
    rw [ei,ej] at this
    omega
   ·subst hij
    rw [ei] at ej
    subst ej
    omega
   ·have:=hpw j i hj hi hij
    rw [ei,ej] at this
    have:=b3 p'.2 (by omega) (by omega)
    rcases c4 with c4 | c4
    ·omega
    ·rw [c4] at this;cases this
  ·exact h
 have:q=p:=Prod.ext e1 e2
 rw [← this];exact hq
theorem RunsOf.uniq {k:Nat→Bool} {n:Nat} {P Q:List (Nat × Nat)} (hP:RunsOf k n P) (hQ:RunsOf k n Q):P=Q:=by
 have pw:∀ {R:List (Nat × Nat)},RunsOf k n R→R.Pairwise (fun a b=>I4 (a.1:Int) (b.1:Int)<0):=fun {R} h=>by
  rw [List.pairwise_iff_getElem]
  intro i j hi hj hij
  have h1:=List.pairwise_iff_getElem.1 h.asc i j hi hj hij
  have h2:=(h.ok _ (List.getElem_mem hi)).1
  unfold I4
  rw [if_pos (by omega)]
  omega
 exact a3p (c:=fun a b:Nat × Nat=>I4 (a.1:Int) (b.1:Int)) (M3.by fun a:Nat × Nat=>(a.1:Int)) (pw hP) (pw hQ) fun x=>⟨hP.mem hQ,hQ.mem hP⟩
theorem CompOf.mem {l m:List Record} (hc:CompOf l m) (h:VL l) {q:Record} (hq:q∈m):∃ r∈l,∃ a b:Nat,a<b∧b≤r.Samples.length∧q=a7q r a b∧(a,b)∈b0f (K6 I7 l) r:=by
 obtain ⟨r,hr,hq⟩:=List.mem_flatMap.1 (hc.perm.mem_iff.1 hq)
 have hr:=a0n.1 hr
 obtain ⟨a,b,h1,h2,h3,h4⟩:=b2a (h.rf r hr) q hq
 exact ⟨r,hr,a,b,h1,h2,h3,h4⟩
theorem CompOf.rf {l m:List Record} (hc:CompOf l m) (h:VL l) {q:Record} (hq:q∈m):RF q:=by
 obtain ⟨r,hr,a,b,h1,h2,rfl,_⟩:=hc.mem h hq
 exact (h.rf r hr).sub h1 h2
theorem CompOf.len {l m:List Record} (hc:CompOf l m) (h:VS15 l):m.length≤100100:=by
 rw [hc.perm.length_eq]
 have h1:=a0T I7 l
 have h2:=h.len
 have h3:=a0D (Q7 (K6 I7 l)) 1001 (K6 I7 l) fun x hx=>by
  have hx:=a0n.1 hx
  have h1:=(a0c (K6 I7 l) (h.rf x hx)).2.2
  have h2:=h.smp x hx
  unfold Q7 a1o
  rw [List.length_map];omega
 have:=Nat.mul_le_mul_left 1001 (show (K6 I7 l).length≤100 by omega)
 omega
theorem a8l {α β:Type} {f g:α→List β}:∀ {l:List α},(∀ x∈l,f x=g x)→l.flatMap f=l.flatMap g
 | [],_=>rfl
 | a :: l,h=>by rw [List.flatMap_cons,List.flatMap_cons,h a List.mem_cons_self,a8l fun x hx=>h x (List.mem_cons_of_mem _ hx)]
theorem CompOf.eq {l m:List Record} (hc:CompOf l m) (f:Record→List (Nat × Nat)) (h:VL l) (hf:∀ r∈K6 I7 l,RunsOf (keepR (K6 I7 l) r) r.Samples.length (f r)) {m':List Record} (hp:m'.Perm ((K6 I7 l).flatMap fun r=>a1o r (f r))) (ha:m'.Pairwise (fun s t=>I7 s t≤0)):m=m':=by
 have e:(K6 I7 l).flatMap (Q7 (K6 I7 l))=(K6 I7 l).flatMap fun r=>a1o r (f r):=by
  refine a8l fun r hr=>?_
  unfold Q7
  rw [(a0c (K6 I7 l) (h.rf r (a0n.1 hr))).2.1.uniq (hf r hr)]
 have anti:∀ {L:List Record},L.Pairwise (fun s t=>I7 s t≤0)→L.Pairwise (fun a b=>decide (I7 b a<0)=false):=fun h=>h.imp fun {a b} hab=>by
  have:=P9.anti a b
  simp;omega
 exact a6K (lt:=fun a b=>decide (I7 a b<0)) ((hc.perm.trans (e ▸ List.Perm.refl _)).trans hp.symm) (fun a _ b _=>a9K) (anti hc.asc) (anti ha)
end Go.Proofs.YtdcafiefjakfeaaGreat.Sh
namespace Go.Proofs.YtdcafiefjakfeaaGreat.Sh
open Go
set_option linter.unusedVariables false
set_option linter.unusedSimpArgs false
theorem b4F {p q:List Span} {i:Nat} (hi:i<p.length) (hl:p.length≤1000∧q.length≤100) (out0:List Span) (h0:out0.length≤200000) (o:List Span) :
  ∃ r,l9 (a5c p q (o,(i:Int))) (out0,0)=some r∧(∀ z,Mem r z↔Mem out0 z∨((p[i].From≤z∧z<p[i].To)∧Mem q z))∧r.length≤out0.length+q.length:=
 Y3 (fun a i=>(a,i)) q.length (fun k a=>(∀ z,Mem a z↔Mem out0 z∨((p[i].From≤z∧z<p[i].To)∧Mem (q.take k) z))∧a.length≤out0.length+k) _ (fun k hk a ⟨h1,h2⟩=>by
  unfold a5c
  simp only
  unfold a5a
  simp only
  rw [if_pos (decide_eq_true (by omega)),w9 _ _ hi,w9 _ _ hk,G7 (n:=k) (by omega)]
  simp only [Option.bind_some]
  by_cases hlt:max p[i].From q[k].From<min p[i].To q[k].To
  ·rw [if_pos (decide_eq_true hlt),E5 _ _ _ (by simp;omega) (by decide)]
   refine ⟨_,rfl,fun z=>?_,by simp;omega⟩
   rw [mem_append,Y5,h1,G6 hk,mem_append,Y5]
   simp only
   constructor
   ·rintro ((h | h) | h)
    ·exact .inl h
    ·exact .inr ⟨h.1,.inl h.2⟩
    ·exact .inr ⟨by omega,.inr (by omega)⟩
   ·rintro (h | ⟨h,h' | h'⟩)
    ·exact .inl (.inl h)
    ·exact .inl (.inr ⟨h,h'⟩)
    ·exact .inr (by omega)
  ·rw [if_neg (by simpa using hlt)]
   refine ⟨_,rfl,fun z=>?_,by omega⟩
   rw [h1,G6 hk,mem_append,Y5]
   constructor
   ·rintro (h | h)
    ·exact .inl h
    ·exact .inr ⟨h.1,.inl h.2⟩
   ·rintro (h | ⟨h,h' | h'⟩)
    ·exact .inl h
    ·exact .inr ⟨h,h'⟩
    ·omega) (fun a ⟨h1,h2⟩=>by
  unfold a5c
  simp only
  rw [if_neg (by simp)]
  rw [List.take_of_length_le (Nat.le_refl _)] at h1
  exact ⟨a,rfl,h1,h2⟩) out0 ⟨fun z=>by simp [Mem],by omega⟩
theorem b4G {a b:List Span} (ha:a.length<100) (hb:b.length<100):∃ r,a6b a b=some r∧VS r∧(∀ z,Mem r z↔Mem a z∧Mem b z)∧r.length≤10000:=by
 unfold a6b
 obtain ⟨p,ep,hp⟩:=a1Q (l:=a) (by omega)
 obtain ⟨q,eq,hq⟩:=a1Q (l:=b) (by omega)
 rw [ep,eq]
 simp only [Option.bind_some]
 have l1:=hp.len
 have l2:=hq.len
 obtain ⟨o,eo,ho,hol⟩:=Y3 (body:=a5b p q) (fun a i=>(a,i)) p.length (fun i a=>(∀ z,Mem a z↔Mem (p.take i) z∧Mem q z)∧a.length≤i * 100) (fun r=>(∀ z,Mem r z↔Mem p z∧Mem q z)∧r.length≤10000) (fun i hi a ⟨h1,h2⟩=>by
  unfold a5b
  simp only
  rw [if_pos (decide_eq_true (by omega))]
  obtain ⟨r,er,hr,hrl⟩:=b4F hi (q:=q) (by omega) a (by omega) a
  rw [er,G7 (n:=i) (by omega)]
  refine ⟨r,rfl,fun z=>?_,by omega⟩
  rw [hr,h1,G6 hi,mem_append,Y5]
  constructor
  ·rintro (h | h)
   ·exact ⟨.inl h.1,h.2⟩
   ·exact ⟨.inr h.1,h.2⟩
  ·rintro ⟨h | h,h'⟩
   ·exact .inl ⟨h,h'⟩
   ·exact .inr ⟨h,h'⟩) (fun a ⟨h1,h2⟩=>by
  unfold a5b
  simp only
  rw [if_neg (by simp)]
  rw [List.take_of_length_le (Nat.le_refl _)] at h1
  exact ⟨a,rfl,h1,by omega⟩) [] ⟨fun z=>by simp [Mem],by simp⟩
 rw [eo]
 simp only [Option.bind_some]
 obtain ⟨r,er,hr⟩:=a1Q (l:=o) (by omega)
 rw [er]
 exact ⟨r,rfl,hr.vs,fun z=>by rw [hr.mem,ho,hp.mem,hq.mem],Nat.le_trans hr.len hol⟩
theorem b5m {a b:List Span} (ha:a.length<100) (hb:b.length<100):∃ r,a6b a b=some r∧VS r∧∀ z,Mem r z↔Mem a z∧Mem b z:=by
 obtain ⟨r,e,h1,h2,_⟩:=b4G ha hb
 exact ⟨r,e,h1,h2⟩
end Go.Proofs.YtdcafiefjakfeaaGreat.Sh
namespace Go.Proofs.YtdcafiefjakfeaaGreat.Sh
open Go
set_option linter.unusedVariables false
set_option linter.unusedSimpArgs false
theorem RF.at_lt {r:Record} (h:RF r) {i j:Nat} {t:Int} (h1:o5 r (i:Int)≤t) (h2:t<o5 r ((j:Int)+1)):i≤j:=by
 rcases Nat.lt_or_ge j i with h3 | h3
 ·have:=h.mono (i:=(j:Int)+1) (j:=(i:Int)) (by omega)
  omega
 ·exact h3
theorem b6n {l:List Record} (h:VL l) {r q:Record} (hr:r∈l) (hq:q∈l) {i j:Nat} (hi:i<r.Samples.length) (hj:j<q.Samples.length) (kr:keepR (K6 I7 l) r i=true) (kq:keepR (K6 I7 l) q j=true) {t:Int}
  (t1:o5 r (i:Int)≤t) (t2:t<o5 r ((i:Int)+1)) (t3:o5 q (j:Int)≤t) (t4:t<o5 q ((j:Int)+1)):r=q∧i=j:=by
 have hss:∀ x∈K6 I7 l,RF x:=fun x hx=>h.rf x (a0n.1 hx)
 have key:∀ {r q:Record},r∈l→q∈l→∀ {i j:Nat},i<r.Samples.length→j<q.Samples.length→keepR (K6 I7 l) q j=true→o5 r (i:Int)≤t→t<o5 r ((i:Int)+1)→o5 q (j:Int)≤t→t<o5 q ((j:Int)+1)→¬ a8R r q<0:=by
  intro r q hr hq i j hi hj kq t1 t2 t3 t4 hb
  refine (a7e (h.rf q hq) (a7x hss q)).1 kq t t3 t4 ⟨a6m r,List.mem_map.2 ⟨r,List.mem_filter.2 ⟨a0n.2 hr,decide_eq_true hb⟩,rfl⟩,?_,?_⟩
  ·have:=(h.rf r hr).mono (i:=0) (j:=(i:Int)) (by omega)
   show o5 r 0≤t
   omega
  ·have:=(h.rf r hr).mono (i:=(i:Int)+1) (j:=(r.Samples.length:Int)) (by omega)
   show t<o5 r r.Samples.length
   omega
 have e:r=q:=by
  have h1:=key hr hq hi hj kq t1 t2 t3 t4
  have h2:=key hq hr hj hi kr t3 t4 t1 t2
  have:=b4f.anti r q
  exact b5Y (by omega)
 subst e
 have a:=(h.rf r hr).at_lt t1 t4
 have b:=(h.rf r hr).at_lt t3 t2
 exact ⟨rfl,by omega⟩
theorem keep_iff {l:List Record} (h:VL l) {r:Record} (hr:r∈l) {i:Nat}:keepR (K6 I7 l) r i=true↔∀ q∈l,a8R q r<0→∀ y,o5 r (i:Int)≤y→y<o5 r ((i:Int)+1)→¬ (o5 q 0≤y∧y<o5 q q.Samples.length):=by
 have hss:∀ x∈K6 I7 l,RF x:=fun x hx=>h.rf x (a0n.1 hx)
 unfold keepR
 rw [a7e (h.rf r hr) (a7x hss r)]
 constructor
 ·intro hk q hq hb y h1 h2 h3
  exact hk y h1 h2 ⟨a6m q,List.mem_map.2 ⟨q,List.mem_filter.2 ⟨a0n.2 hq,decide_eq_true hb⟩,rfl⟩,h3⟩
 ·rintro hk y h1 h2 ⟨s,hs,h3⟩
  obtain ⟨q,hq,rfl⟩:=List.mem_map.1 hs
  obtain ⟨h4,h5⟩:=List.mem_filter.1 hq
  exact hk q (a0n.1 h4) (of_decide_eq_true h5) y h1 h2 h3
theorem cmpR_beg {a b:Record} (ha:RF a) (hb:RF b) (hs:a.Source=b.Source) (h:o5 a 0<o5 b 0):I7 a b<0:=by
 have e1:a3q a=o5 a 0:=by unfold a3q;rw [if_pos (R5.2 ha)]
 have e2:a3q b=o5 b 0:=by unfold a3q;rw [if_pos (R5.2 hb)]
 have e3:a5R a.Source b.Source=0:=by rw [hs];exact b1N.refl _
 have e4:I4 (a3q a) (a3q b)=-1:=by unfold I4;rw [if_pos (by omega)]
 unfold I7 andThen
 rw [if_neg (by simp [e3]),if_pos (show (fun a b:Record=>I4 (a3q a) (a3q b)) a b≠0 by show I4 (a3q a) (a3q b)≠0;rw [e4];decide)]
 show I4 (a3q a) (a3q b)<0
 rw [e4];decide
end Go.Proofs.YtdcafiefjakfeaaGreat.Sh
namespace Go.Proofs.YtdcafiefjakfeaaGreat.Sh
open Go
set_option linter.unusedVariables false
set_option linter.unusedSimpArgs false
theorem ceil_ok {r:Rate} (h:RV r) {x:Int} (x0:0≤x) (x1:x≤18014398509481985):∃ c,a8L r x=some c∧0≤c∧c≤100000000000000∧(c - 1) * (r.Den * 1000000)<x * r.Num∧x * r.Num≤c * (r.Den * 1000000):=by
 have n0:=h.n0;have n1:=h.n1;have d0:=h.d0;have d1:=h.d1
 obtain ⟨p,hp⟩:∃ p,r.Den * 1000000=p:=⟨_,rfl⟩
 obtain ⟨n,hn⟩:∃ n,r.Num=n:=⟨_,rfl⟩
 have p0:1000000≤p:=by omega
 have p1:p≤4096000000:=by omega
 rw [hn] at n0 n1
 obtain ⟨q,hq⟩:∃ q,x / p=q:=⟨_,rfl⟩
 obtain ⟨m,hm⟩:∃ m,x % p=m:=⟨_,rfl⟩
 have q0:0≤q:=by rw [← hq];exact Int.ediv_nonneg x0 (by omega)
 have q1:q≤18014398510:=by
  rw [← hq]
  have h1:x / p<18014398510+1:=Int.ediv_lt_of_lt_mul (by omega) (by
   have:=Int.mul_le_mul_of_nonneg_left p0 (show (0:Int)≤18014398510+1 by decide)
   omega)
  omega
 have m0:0≤m:=by rw [← hm];exact Int.emod_nonneg _ (by omega)
 have m1:m<p:=by rw [← hm];exact Int.emod_lt_of_pos _ (by omega)
 have hx:x=p * q+m:=by rw [← hq,← hm];exact (Int.mul_ediv_add_emod x p).symm
 have qn0:0≤q * n:=Int.mul_nonneg q0 (by omega)
 have qn1:q * n≤18014398510 * 4096:=Int.mul_le_mul q1 n1 (by omega) (by omega)
 have mn0:0≤m * n:=Int.mul_nonneg m0 (by omega)
 have mn1:m * n≤4096000000 * 4096:=Int.mul_le_mul (by omega) n1 (by omega) (by omega)
 obtain ⟨z,hz⟩:∃ z,(m * n+p - 1) / p=z:=⟨_,rfl⟩
 have z1:z * p≤m * n+p - 1:=by rw [← hz];exact Int.ediv_mul_le _ (by omega)
 have z2:m * n+p - 1<(z+1) * p:=by rw [← hz];exact Int.lt_ediv_add_one_mul_self _ (by omega)
 have z0:0≤z:=by rw [← hz];exact Int.ediv_nonneg (by omega) (by omega)
 have z3:z≤16777216000000+4096000000:=by
  have:=Int.ediv_le_self p (show 0≤m * n+p - 1 by omega)
  rw [hz] at this
  omega
 refine ⟨q * n+z,?_,by omega,by omega,?_,?_⟩
 ·unfold a8L
  rw [a8r h]
  simp only [Option.bind_some]
  rw [hp,hn,b0E (by omega) x0 (by omega),rem_nn (by omega) x0,hq,hm]
  simp only [Option.bind_some]
  rw [y8 (x:=m * n) (by omega) (by omega),y8 (x:=m * n+p) (by omega) (by omega),y8 (x:=m * n+p - 1) (by omega) (by omega),b0E (by omega) (by omega) (by omega),hz]
  simp only [Option.bind_some]
  rw [y8 (x:=q * n) (by omega) (by omega),y8 (by omega) (by omega)]
 ·rw [hn,hp]
  have e1:(q * n+z - 1) * p=q * n * p+z * p - p:=by grind
  have e2:x * n=q * n * p+m * n:=by rw [hx];grind
  omega
 ·rw [hn,hp]
  have e1:(q * n+z) * p=q * n * p+z * p:=by grind
  have e2:x * n=q * n * p+m * n:=by rw [hx];grind
  have e3:(z+1) * p=z * p+p:=by grind
  omega
theorem b1L {r:Record} (h:RF r) {i:Int} (i0:0≤i) (i1:i≤r.Samples.length):a0V r i=some (o5 r i):=by
 have f0:=h.f0;have f1:=h.f1
 unfold a0V
 rw [y8 (by omega) (by omega),a1N,h.timeV i0 i1]
 rfl
theorem b4r {r:Record} (h:RF r) {t:Int} (h0:o5 r 0≤t) (h1:t<o5 r r.Samples.length):∃ i:Nat,i<r.Samples.length∧o5 r (i:Int)≤t∧t<o5 r ((i:Int)+1)∧a7L r.Start r.Rate t=some (r.First+i,0):=by
 have f0:=h.f0;have f1:=h.f1;have l0:=h.l0;have l1:=h.l1;have s0:=h.s0;have s1:=h.s1
 have n0:=h.rv.n0;have n1:=h.rv.n1;have d0:=h.rv.d0;have d1:=h.rv.d1
 have te:o5 r r.Samples.length≤9007199254740992:=h.te
 have hst:r.Start≤t:=by
  have:0≤(r.First+0) * (r.Rate.Den * 1000000) / r.Rate.Num:=Int.ediv_nonneg (Int.mul_nonneg (by omega) (by omega)) (by omega)
  unfold o5 at h0
  omega
 obtain ⟨c,ec,c0,c1,c2,c3⟩:=ceil_ok h.rv (x:=t - r.Start+1) (by omega) (by omega)
 have T1:∀ j:Int,o5 r (j - r.First)=r.Start+j * (r.Rate.Den * 1000000) / r.Rate.Num:=fun j=>by
  unfold o5
  rw [show r.First+(j - r.First)=j by omega]
 have a1:o5 r (c - 1 - r.First)≤t:=by
  rw [T1]
  have:=Int.ediv_lt_of_lt_mul (show 0<r.Rate.Num by omega) c2
  omega
 have a2:t<o5 r (c - r.First):=by
  rw [T1]
  have:=Int.le_ediv_of_mul_le (show 0<r.Rate.Num by omega) c3
  omega
 have b1:0<c - r.First:=by
  refine Classical.byContradiction fun hn=>?_
  have:=h.mono (i:=c - r.First) (j:=0) (by omega)
  omega
 have b2:c - 1 - r.First<r.Samples.length:=by
  refine Classical.byContradiction fun hn=>?_
  have:=h.mono (i:=(r.Samples.length:Int)) (j:=c - 1 - r.First) (by omega)
  omega
 obtain ⟨i,hi⟩:∃ i:Nat,c - 1 - r.First=(i:Int):=⟨(c - 1 - r.First).toNat,by omega⟩
 refine ⟨i,by omega,by rw [← hi];exact a1,by rw [← hi,show c - 1 - r.First+1=c - r.First by omega];exact a2,?_⟩
 unfold a7L
 have ech:a7O r.Start r.Rate t=some 0:=by
  unfold a7O
  rw [a9b,a2A.2 h.rv]
  simp only [Option.bind_some,Bool.not_true,Bool.false_eq_true,if_false,a9x]
  rw [a7c s0 s1,a7c (n:=t) (by omega) (by omega)]
  rfl
 rw [ech]
 simp only [Option.bind_some,bne_self_eq_false,Bool.false_eq_true,if_false]
 rw [if_neg (by simp;omega)]
 unfold b0H
 rw [y8 (x:=t - r.Start) (by omega) (by omega),y8 (x:=t - r.Start+1) (by omega) (by omega),ec]
 simp only [Option.bind_some]
 rw [y8 (x:=c - 1) (by omega) (by omega),show min (c - 1) 16777216=r.First+(i:Int) by omega]
def b1R (r:Record) (t:Int):Option Nat:=(List.range r.Samples.length).find? fun (i:Nat)=>decide (o5 r (i:Int)≤t) && decide (t<o5 r ((i:Int)+1))
theorem b1C {r:Record} (h:RF r) {t:Int} {i:Nat} (hi:i<r.Samples.length) (h1:o5 r (i:Int)≤t) (h2:t<o5 r ((i:Int)+1)):b1R r t=some i:=by
 unfold b1R
 rw [List.find?_eq_some_iff_getElem]
 refine ⟨by simp [h1,h2],i,by simpa using hi,by simp,fun j hj=>?_⟩
 have:=h.mono (i:=(j:Int)+1) (j:=(i:Int)) (by omega)
 simp only [List.getElem_range,Bool.not_eq_true',Bool.and_eq_false_iff,decide_eq_false_iff_not]
 omega
theorem b0z {r:Record} {t:Int} {i:Nat} (h:b1R r t=some i):i<r.Samples.length∧o5 r (i:Int)≤t∧t<o5 r ((i:Int)+1):=by
 unfold b1R at h
 have h3:=List.find?_some h
 have h4:=List.mem_of_find?_eq_some h
 simp only [Bool.and_eq_true,decide_eq_true_eq] at h3
 exact ⟨by simpa using h4,h3.1,h3.2⟩
theorem idxR_in {r:Record} (h:RF r) {t:Int} {i:Nat} (hi:b1R r t=some i):o5 r 0≤t∧t<o5 r r.Samples.length:=by
 obtain ⟨h1,h2,h3⟩:=b0z hi
 have:=h.mono (i:=0) (j:=(i:Int)) (by omega)
 have:=h.mono (i:=(i:Int)+1) (j:=(r.Samples.length:Int)) (by omega)
 omega
theorem a7b {r:Record} (h:RF r) {t:Int} (hn:¬ (o5 r 0≤t∧t<o5 r r.Samples.length)):b1R r t=none:=by
 cases hi:b1R r t with
 | none=>rfl
 | some i=>exact absurd (idxR_in h hi) hn
theorem b5J {r:Record} (h:RF r) {t:Int} (h0:o5 r 0≤t) (h1:t<o5 r r.Samples.length):∃ i,b1R r t=some i:=by
 obtain ⟨i,hi,a,b,_⟩:=b4r h h0 h1
 exact ⟨i,b1C h hi a b⟩
def a5U (r:Record) (t:Int):Option (Int × Int):=(b1R r t).map fun (i:Nat)=>(o5 r (i:Int),r.Samples.getD i 0)
theorem b4m {r:Record} (h:RF r) (t:Int):a1e r t=some (match a5U r t with | some p=>(p.1,p.2,true) | none=>(0,0,false)):=by
 have f0:=h.f0;have f1:=h.f1;have l0:=h.l0;have l1:=h.l1
 unfold a1e
 rw [b1L h (Int.le_refl 0) (by omega),b1L h (by omega) (Int.le_refl _)]
 simp only [Option.bind_some]
 by_cases h0:t<o5 r 0
 ·rw [if_pos (decide_eq_true h0)]
  have:a5U r t=none:=by unfold a5U;rw [a7b h (by omega)];rfl
  rw [this]
  rfl
 ·rw [if_neg (by simpa using h0)]
  simp only [Option.bind_some]
  by_cases h1:o5 r r.Samples.length≤t
  ·rw [if_pos (decide_eq_true h1)]
   have:a5U r t=none:=by unfold a5U;rw [a7b h (by omega)];rfl
   rw [this]
  ·rw [if_neg (by simpa using h1)]
   obtain ⟨i,hi,a,b,e⟩:=b4r h (t:=t) (by omega) (by omega)
   have:a5U r t=some (o5 r (i:Int),r.Samples.getD i 0):=by unfold a5U;rw [b1C h hi a b];rfl
   rw [this,e]
   simp only [Option.bind_some]
   rw [a1N,h.timeV (by omega) (by omega),y8 (by omega) (by omega),show r.First+(i:Int) - r.First=(i:Int) by omega,w9 _ _ hi]
   simp [List.getD_eq_getElem?_getD,hi]
def hits (l:List Record) (t:Int):List (Int × Int):=l.filterMap (a5U · t)
theorem a9Q (l:List Record) (t:Int):(hits l t).length≤l.length:=List.length_filterMap_le _ _
theorem b0y {l:List Record} {i:Nat} (h:i<l.length) (t:Int):hits (l.take (i+1)) t=hits (l.take i) t ++ (match a5U l[i] t with | some p=>[p] | none=>[]):=by
 unfold hits
 rw [G6 h,List.filterMap_append]
 congr 1
 cases hh:a5U l[i] t <;> simp [hh]
theorem depth_ok {l:List Record} (h:VS15 l) (t:Int):U9 l t=some ((hits (K6 I7 l) t).length:Int):=by
 have hl:=h.len
 unfold U9
 rw [a9H h]
 simp only [Option.bind_some]
 obtain ⟨A,hA⟩:∃ A,K6 I7 l=A:=⟨_,rfl⟩
 have hAl:A.length≤l.length:=by rw [← hA];exact a0T _ _
 have hAr:∀ r∈A,RF r:=fun r hr=>h.rf r (a0n.1 (hA ▸ hr))
 rw [hA]
 have:l9 (a0f t (A,0)) (0,0)=some ((hits A t).length:Int):=by
  refine D9 (fun i=>(((hits (A.take i) t).length:Int),(i:Int))) A.length _ (by simp [hits]) (fun i hi=>?_) ?_
  ·have h1:=a9Q (A.take i) t
   rw [List.length_take] at h1
   unfold a0f
   simp only
   rw [if_pos (decide_eq_true (by omega)),w9 _ _ hi]
   simp only [Option.bind_some]
   rw [b4m (hAr _ (List.getElem_mem hi)),b0y hi]
   unfold a1b
   simp only [Option.bind_some]
   rw [G7 (n:=i) (by omega),G7 (n:=(hits (A.take i) t).length) (by omega)]
   cases a5U A[i] t with
   | none=>simp
   | some p=>simp
  ·unfold a0f
   simp only
   rw [if_neg (by simp),List.take_length]
 rw [this]
 rfl
def allEq:List (Int × Int)→Bool
 | []=>true
 | p :: l=>l.all fun q=>decide (q=p)
theorem b1J {H:List (Int × Int)} {p:Int × Int}:allEq (H ++ [p])=(allEq H && decide (p=H.headD p)):=by
 cases H with
 | nil=>simp [allEq]
 | cons q H=>simp [allEq,List.all_append]
theorem look_ok {A:List Record} (hr:∀ r∈A,RF r) (hl:A.length≤1000) (t:Int):a3E A t=some ⟨(hits A t).length,allEq (hits A t)⟩:=by
 unfold a3E
 suffices hs:∃ o,l9 (a0m A t) (0,true,0,0,0)=some o∧o=(((hits A t).length:Int),allEq (hits A t)) by
  obtain ⟨o,e1,e2⟩:=hs
  rw [e1,e2]
  rfl
 refine Y3 (body:=a0m A t) (fun (a:Int × Bool × Int × Int) i=>(a.1,a.2.1,a.2.2.1,a.2.2.2,i)) A.length (fun i a=>a.1=((hits (A.take i) t).length:Int)∧a.2.1=allEq (hits (A.take i) t)∧∀ p H,hits (A.take i) t=p :: H→a.2.2=p) _ (fun i hi a ⟨h1,h2,h3⟩=>?_) (fun a ⟨h1,h2,h3⟩=>?_) (0,true,0,0) ⟨by simp [hits],by simp [hits,allEq],by simp [hits]⟩
 ·obtain ⟨d,sm,ti,va⟩:=a
  simp only at h1 h2 h3
  have hlen:=a9Q (A.take i) t
  rw [List.length_take] at hlen
  unfold a0m
  simp only
  rw [if_pos (decide_eq_true (by omega)),w9 _ _ hi]
  simp only [Option.bind_some]
  rw [b4m (hr _ (List.getElem_mem hi)),b0y hi]
  simp only [Option.bind_some]
  cases hh:a5U A[i] t with
  | none=>
   simp only [Bool.not_false,if_true]
   unfold a0l
   simp only
   rw [G7 (n:=i) (by omega)]
   exact ⟨(d,sm,ti,va),rfl,by simpa using h1,by simpa using h2,by simpa using h3⟩
  | some p=>
   simp only [Bool.not_true,Bool.false_eq_true,if_false]
   rw [h1,G7 (n:=(hits (A.take i) t).length) (by omega)]
   unfold a1C a0l
   simp only
   rw [G7 (n:=i) (by omega),G7 (n:=(hits (A.take i) t).length) (by omega)]
   cases hH:hits (A.take i) t with
   | nil=>
    rw [if_pos (by simp)]
    refine ⟨(1,sm && (p.1 == p.1) && (p.2 == p.2),p.1,p.2),by simp,by simp,?_,?_⟩
    ·rw [h2,hH];simp [allEq]
    ·intro q Q hq
     simp only [List.nil_append,List.cons.injEq] at hq
     rw [← hq.1]
   | cons q Q=>
    rw [if_neg (by simp;omega)]
    have h4:=h3 q Q hH
    refine ⟨(((q :: Q).length+1:Nat),sm && (p.1 == ti) && (p.2 == va),ti,va),by simp,by simp,?_,?_⟩
    ·simp only
     rw [h2,hH,b1J,Bool.and_assoc]
     congr 1
     have e1:ti=q.1:=congrArg Prod.fst h4
     have e2:va=q.2:=congrArg Prod.snd h4
     rw [e1,e2,Bool.eq_iff_iff]
     obtain ⟨p1,p2⟩:=p
     obtain ⟨q1,q2⟩:=q
     simp
    ·intro u U hu
     simp only [List.cons_append,List.cons.injEq] at hu
     simp only
     rw [← hu.1];exact h4
 ·obtain ⟨d,sm,ti,va⟩:=a
  simp only at h1 h2
  unfold a0m
  simp only
  rw [if_neg (by simp)]
  rw [List.take_length] at h1 h2
  exact ⟨_,rfl,by rw [h1,h2]⟩
theorem b4j (l:List Int):Y7 l=a6X 0 (fun x y=>some (x == y)) l:=rfl
theorem b4O {l:List Int} (hl:l.length<1000000):∃ m,a0R l=some m∧Y7 m=some (K6 I4 l):=by
 unfold a0R sortI
 rw [if_pos (by omega)]
 refine ⟨_,rfl,?_⟩
 obtain ⟨m,hm⟩:∃ m,(l.mergeSort fun a b=>decide (a≤b))=m:=⟨_,rfl⟩
 have hp:m.Perm l:=hm ▸ List.mergeSort_perm _ _
 have hs:m.Pairwise (fun a b=>I4 a b≤0):=by
  have:=List.pairwise_mergeSort (le:=fun a b:Int=>decide (a≤b)) (fun a b c h1 h2=>by simp at h1 h2 ⊢;omega) (fun a b=>by simp;omega) l
  rw [hm] at this
  refine this.imp fun {a b} hab=>?_
  have:=of_decide_eq_true hab
  unfold I4
  split <;> (try split) <;> omega
 have hml:m.length=l.length:=hp.length_eq
 rw [hm,b4j,a9M 0 (eq:=fun x y=>x == y) (fun x _ y _=>rfl) (by omega)]
 obtain ⟨h1,h2⟩:=b3o M3 (fun _ _=>Y1) (eq:=fun x y=>x == y) (fun x _ y _=>by simp) hs m.length (Nat.le_refl _)
 rw [a3p M3 h1 (a3l M3 (fun _ _=>Y1) l) fun x=>?_]
 rw [h2,List.take_of_length_le (Nat.le_refl _),a3t fun _ _=>Y1,hp.mem_iff]
def a7d (r:Record) (f t:Int) (n:Nat):List Int:=(a1p r n).filter fun x=>decide (f<x) && decide (x<t)
def a1T (A:List Record) (f t:Int):List Int:=[f,t] ++ A.flatMap fun r=>a7d r f t (r.Samples.length+1)
theorem a9S (r:Record) (f t:Int) (n:Nat):(a7d r f t n).length≤n:=by
 have:=List.length_filter_le (fun x=>decide (f<x) && decide (x<t)) (a1p r n)
 simp only [a1p,List.length_map,List.length_range] at this
 exact this
theorem a9I {A:List Record} {f t:Int} {k:Nat} (h:∀ r∈A,r.Samples.length≤k):(a1T A f t).length≤2+(k+1) * A.length:=by
 unfold a1T
 have:=a0D (fun r:Record=>a7d r f t (r.Samples.length+1)) (k+1) A fun r hr=>Nat.le_trans (a9S _ _ _ _) (by have:=h r hr;omega)
 rw [List.length_append]
 simp only [List.length_cons,List.length_nil]
 omega
theorem b1K {A:List Record} (hr:∀ r∈A,RF r) (hk:∀ r∈A,r.Samples.length≤1000) (hl:A.length≤100) (f t:Int):a1B A f t=some (K6 I4 (a1T A f t)):=by
 unfold a1B
 have hw:l9 (a0u A f t) (([f,t]:List Int),0)=some (a1T A f t):=by
  refine D9 (fun i=>(a1T (A.take i) f t,(i:Int))) A.length _ (by simp [a1T]) (fun i hi=>?_) ?_
  ·have hR:=hr _ (List.getElem_mem hi)
   have hK:=hk _ (List.getElem_mem hi)
   have hB:=a9I (A:=A.take i) (f:=f) (t:=t) (k:=1000) fun r h=>hk r (List.mem_of_mem_take h)
   rw [List.length_take] at hB
   unfold a0u
   simp only
   rw [if_pos (decide_eq_true (by omega)),w9 _ _ hi]
   simp only [Option.bind_some]
   have e:l9 (a0v f t A[i]) (a1T (A.take i) f t,0)=some (a1T (A.take i) f t ++ a7d A[i] f t (A[i].Samples.length+1)):=by
    refine D9 (fun j=>(a1T (A.take i) f t ++ a7d A[i] f t j,(j:Int))) (A[i].Samples.length+1) _ (by simp [a7d,a1p]) (fun j hj=>?_) ?_
    ·have hJ:=a9S A[i] f t j
     unfold a0v a0t
     simp only
     rw [G7 (n:=A[i].Samples.length) (by omega),if_pos (decide_eq_true (by omega)),b1L hR (by omega) (by omega),G7 (n:=j) (by omega)]
     simp only [Option.bind_some]
     have e1:a7d A[i] f t (j+1)=a7d A[i] f t j ++ if (decide (f<o5 A[i] (j:Int)) && decide (o5 A[i] (j:Int)<t))=true then [o5 A[i] (j:Int)] else []:=by
      unfold a7d
      rw [a8I,List.filter_append,List.filter_cons,List.filter_nil]
     rw [e1]
     by_cases hc:(decide (f<o5 A[i] (j:Int)) && decide (o5 A[i] (j:Int)<t))=true
     ·rw [if_pos hc,if_pos hc,E5 _ _ _ (by
       simp only [List.length_append,List.length_cons,List.length_nil]
       omega) (by decide)]
      simp only [Option.bind_some]
      rw [List.append_assoc]
     ·rw [if_neg hc,if_neg hc,List.append_nil]
    ·unfold a0v
     simp only
     rw [G7 (n:=A[i].Samples.length) (by omega),if_neg (by simp)]
   rw [e]
   simp only [Option.bind_some]
   rw [G7 (n:=i) (by omega)]
   unfold a1T
   rw [G6 hi,List.flatMap_append,List.flatMap_singleton,List.append_assoc]
  ·unfold a0u
   simp only
   rw [if_neg (by simp),List.take_length]
 rw [hw]
 simp only [Option.bind_some]
 have hB:=a9I (A:=A) (f:=f) (t:=t) (k:=1000) hk
 obtain ⟨m,e1,e2⟩:=b4O (l:=a1T A f t) (by have:=Nat.mul_le_mul_left 1001 hl;omega)
 rw [e1]
 simp only [Option.bind_some]
 rw [e2]
 rfl
theorem mem_bord {A:List Record} {f t x:Int}:x∈a1T A f t↔x=f∨x=t∨(f<x∧x<t∧∃ r∈A,∃ i:Nat,i≤r.Samples.length∧x=o5 r (i:Int)):=by
 unfold a1T a7d a1p
 simp only [List.mem_append,List.mem_cons,List.not_mem_nil,or_false,List.mem_flatMap,List.mem_filter,List.mem_map,List.mem_range,Bool.and_eq_true,decide_eq_true_eq]
 constructor
 ·rintro ((h | h) | ⟨r,hr,⟨i,hi,rfl⟩,h⟩)
  ·exact .inl h
  ·exact .inr (.inl h)
  ·exact .inr (.inr ⟨h.1,h.2,r,hr,i,by omega,rfl⟩)
 ·rintro (h | h | ⟨h1,h2,r,hr,i,hi,rfl⟩)
  ·exact .inl (.inl h)
  ·exact .inl (.inr h)
  ·exact .inr ⟨r,hr,⟨i,by omega,rfl⟩,h1,h2⟩
end Go.Proofs.YtdcafiefjakfeaaGreat.Sh
namespace Go.Proofs.YtdcafiefjakfeaaGreat.Sh
open Go
set_option linter.unusedVariables false
set_option linter.unusedSimpArgs false
instance decSpan:DecidableEq Span:=fun a b=>decidable_of_iff (a.From=b.From∧a.To=b.To) ⟨fun ⟨h1,h2⟩=>by cases a;cases b;simp_all,fun h=>by rw [h];exact ⟨rfl,rfl⟩⟩
theorem b6x (a b:List Span) (ha:a.length≤1000000):a4K a b=some (decide (a=b)):=by
 unfold a4K
 by_cases hl:a.length=b.length
 ·rw [if_neg (by simp;omega)]
  refine b0A a b (fun x y=>(x.From == y.From) && ((x.To == y.To) && true)) (fun x y=>?_) hl (fun i hi he=>?_) (fun i hi he=>?_) ?_
  ·cases x;cases y;simp
  ·unfold a5d
   rw [if_pos (decide_eq_true (by omega)),w9 _ _ hi,w9 b i (by omega)]
   simp only [Option.bind_some]
   rw [he,G7 (by omega)]
   rfl
  ·unfold a5d
   rw [if_pos (decide_eq_true (by omega)),w9 _ _ hi,w9 b i (by omega)]
   simp only [Option.bind_some]
   rw [he]
   rfl
  ·unfold a5d
   rw [if_neg (by simp)]
   rfl
 ·rw [if_pos (by simp;omega),decide_eq_false (fun h=>hl (by rw [h]))]
theorem b3a (a:List Span) (ha:a.length≤1000000):a4K a a=some true:=by rw [b6x a a ha,decide_eq_true rfl]
def EB (lo hi:Int) (l:List Span):Prop:=∀ s∈l,(lo≤s.From∧s.From≤hi)∧(lo≤s.To∧s.To≤hi)
theorem EB.app {lo hi:Int} {a b:List Span} (ha:EB lo hi a) (hb:EB lo hi b):EB lo hi (a ++ b):=fun s hs=>(List.mem_append.1 hs).elim (ha s) (hb s)
theorem EB.one {lo hi:Int} {s:Span} (h:(lo≤s.From∧s.From≤hi)∧(lo≤s.To∧s.To≤hi)):EB lo hi [s]:=fun t ht=>by
 rcases List.mem_singleton.1 ht with rfl;exact h
theorem NS.eb {l r:List Span} (h:NS l r) {lo hi:Int} (hl:EB lo hi l):EB lo hi r:=fun s hs=>by
 obtain ⟨⟨t,ht,e⟩,u,hu,e'⟩:=h.ends s hs
 rw [e,e']
 exact ⟨(hl t ht).1,(hl u hu).2⟩
theorem b4K {a b:List Span} (h:a.length+b.length≤10000):∃ r,a6E a b=some r∧NS (a ++ b) r:=by
 unfold a6E
 rw [E5 _ _ _ (by simp;omega) (by decide)]
 simp only [Option.bind_some,List.nil_append]
 rw [E5 _ _ _ (by omega) (by decide)]
 simp only [Option.bind_some]
 obtain ⟨r,er,hr⟩:=a1Q (l:=a ++ b) (by simp;omega)
 rw [er]
 exact ⟨r,rfl,hr⟩
theorem VS.later {l:List Span} (h:VS l) {i:Nat} (hi:i<l.length):∀ u∈l.drop (i+1),l[i].To<u.From:=by
 have hp:=h.ap.sublist (List.drop_sublist i l)
 rw [List.drop_eq_getElem_cons hi] at hp
 exact (List.pairwise_cons.1 hp).1
structure MN (q:List Span) (x:Span) (out0:List Span) (k:Nat) (out:List Span) (at_:Int):Prop where
 vs:VS out
 low:x.From≤at_
 mem:∀ z,Mem out z↔Mem out0 z∨((x.From≤z∧z<x.To)∧z<at_∧¬ Mem q z)
 ord:∀ s∈out,s.To<at_∧s.To≤x.To
 done:∀ u∈q.take k,u.To≤at_∨x.To≤u.From
 len:out.length≤out0.length+k
 eb:∀ lo hi,EB lo hi q→EB lo hi out0→(lo≤x.From∧x.From≤hi)∧(lo≤x.To∧x.To≤hi)→EB lo hi out∧lo≤at_∧at_≤hi
theorem MN.zero {q:List Span} {x:Span} {out0:List Span} (h0:VS out0) (hx:x.From<x.To) (ho:∀ s∈out0,s.To<x.From):MN q x out0 0 out0 x.From:=
 ⟨h0,Int.le_refl _,fun z=>⟨.inl,fun h=>h.elim id (fun h=>by omega)⟩,fun s hs=>⟨ho s hs,by have:=ho s hs;omega⟩,fun u hu=>(by simp at hu),Nat.le_refl _,fun lo hi h1 h2 h3=>⟨h2,by omega,by omega⟩⟩
theorem b4w {q:List Span} (hq:VS q) (hql:q.length≤1000) {x:Span} (hx:x.From<x.To) {out0:List Span} (h0:VS out0) (hol:out0.length≤100000) (ho:∀ s∈out0,s.To<x.From) :
  ∃ r,l9 (a2g q x) (out0,x.From,0)=some r∧MN q x out0 q.length r.1 r.2:=by
 refine Y3 (fun (a:List Span × Int) i=>(a.1,a.2,i)) q.length (fun k a=>MN q x out0 k a.1 a.2) _ (fun k hk a h=>?_) (fun a h=>?_) (out0,x.From) (MN.zero h0 hx ho)
 ·obtain ⟨out,at_⟩:=a
  simp only at h
  have hlen:=h.len
  have hlow:=h.low
  have hny:=hq.ne _ (List.getElem_mem hk)
  unfold a2g
  simp only
  rw [if_pos (decide_eq_true (by omega)),w9 _ _ hk]
  simp only [Option.bind_some]
  unfold a3A a3z
  simp only
  rw [G7 (n:=k) (by omega)]
  have htk:∀ P:Span→Prop,(∀ u∈q.take k,P u)→P q[k]→∀ u∈q.take (k+1),P u:=fun P h1 h2 u hu=>by
   rw [G6 hk] at hu
   rcases List.mem_append.1 hu with hu | hu
   ·exact h1 u hu
   ·rcases List.mem_singleton.1 hu with rfl;exact h2
  by_cases hsk:q[k].To≤at_∨x.To≤q[k].From
  ·rw [if_pos (by simpa using hsk)]
   exact ⟨(out,at_),rfl,h.vs,h.low,h.mem,h.ord,htk _ h.done hsk,by simp only;omega,h.eb⟩
  ·have hsk1:at_<q[k].To:=by omega
   have hsk2:q[k].From<x.To:=by omega
   rw [if_neg (by simp;omega)]
   have hmax:max at_ q[k].To=q[k].To:=by omega
   have hin:∀ z,at_≤z→z<x.To→z<q[k].To→(Mem q z↔q[k].From≤z):=by
    intro z z1 z2 z3
    constructor
    ·rintro ⟨u,hu,g⟩
     have hsplit:u∈q.take k ++ q[k] :: q.drop (k+1):=by
      rw [← List.drop_eq_getElem_cons hk,List.take_append_drop];exact hu
     rcases List.mem_append.1 hsplit with hu' | hu'
     ·rcases h.done u hu' with g1 | g1 <;> omega
     ·rcases List.mem_cons.1 hu' with rfl | hu'
      ·exact g.1
      ·have:=hq.later hk u hu';omega
    ·exact fun g=>⟨_,List.getElem_mem hk,g,z3⟩
   have hdone:∀ u∈q.take (k+1),u.To≤q[k].To∨x.To≤u.From:=htk _ (fun u hu=>(h.done u hu).elim (fun g=>.inl (by omega)) .inr) (.inl (Int.le_refl _))
   by_cases hgap:at_<q[k].From
   ·rw [if_pos (decide_eq_true hgap),E5 _ _ _ (by simp;omega) (by decide)]
    simp only [Option.bind_some]
    rw [hmax]
    refine ⟨(out ++ [⟨at_,q[k].From⟩],q[k].To),rfl,h.vs.snoc hgap (fun s hs=>(h.ord s hs).1),by simp only;omega,fun z=>?_,fun s hs=>?_,hdone,by simp;omega,fun lo hi e1 e2 e3=>?_⟩
    ·rw [mem_append,Y5,h.mem]
     simp only
     constructor
     ·rintro ((g | g) | g)
      ·exact .inl g
      ·exact .inr ⟨g.1,by omega,g.2.2⟩
      ·refine .inr ⟨by omega,by omega,fun g'=>?_⟩
       have:=(hin z (by omega) (by omega) (by omega)).1 g'
       omega
     ·rintro (g | ⟨g1,g2,g3⟩)
      ·exact .inl (.inl g)
      ·by_cases hz:z<at_
       ·exact .inl (.inr ⟨g1,hz,g3⟩)
       ·by_cases hz2:z<q[k].From
        ·exact .inr ⟨by omega,hz2⟩
        ·exact absurd ((hin z (by omega) (by omega) g2).2 (by omega)) g3
    ·rcases List.mem_append.1 hs with hs | hs
     ·have:=h.ord s hs
      simp only
      omega
     ·rcases List.mem_singleton.1 hs with rfl
      simp only
      omega
    ·obtain ⟨b1,b2,b3⟩:=h.eb lo hi e1 e2 e3
     have b4:=e1 _ (List.getElem_mem hk)
     exact ⟨b1.app (EB.one (by simp only;omega)),by simp only;omega,by simp only;omega⟩
   ·rw [if_neg (by simpa using hgap)]
    rw [hmax]
    refine ⟨(out,q[k].To),rfl,h.vs,by simp only;omega,fun z=>?_,fun s hs=>?_,hdone,by simp only;omega,fun lo hi e1 e2 e3=>?_⟩
    ·rw [h.mem]
     constructor
     ·rintro (g | g)
      ·exact .inl g
      ·exact .inr ⟨g.1,by simp only;omega,g.2.2⟩
     ·rintro (g | ⟨g1,g2,g3⟩)
      ·exact .inl g
      ·by_cases hz:z<at_
       ·exact .inr ⟨g1,hz,g3⟩
       ·exact absurd ((hin z (by omega) (by omega) g2).2 (by omega)) g3
    ·have:=h.ord s hs
     simp only
     omega
    ·obtain ⟨b1,b2,b3⟩:=h.eb lo hi e1 e2 e3
     have b4:=e1 _ (List.getElem_mem hk)
     exact ⟨b1,by simp only;omega,by simp only;omega⟩
 ·unfold a2g
  simp only
  rw [if_neg (by simp)]
  exact ⟨_,rfl,h⟩
structure LS (p q r:List Span):Prop where
 vs:VS r
 mem:∀ z,Mem r z↔Mem p z∧¬ Mem q z
 len:r.length≤p.length * (q.length+1)
 eb:∀ lo hi,EB lo hi p→EB lo hi q→EB lo hi r
structure MO (p q:List Span) (i:Nat) (out:List Span):Prop where
 vs:VS out
 mem:∀ z,Mem out z↔Mem (p.take i) z∧¬ Mem q z
 ord:∀ s∈out,∀ u∈p.drop i,s.To<u.From
 len:out.length≤i * (q.length+1)
 eb:∀ lo hi,EB lo hi p→EB lo hi q→EB lo hi out
theorem MO.step {p q out o2:List Span} {at_:Int} {i:Nat} (hp:VS p) (hi:i<p.length) (h:MO p q i out) (hn:MN q p[i] out q.length o2 at_) :
  MO p q (i+1) (if at_<p[i].To then o2 ++ [⟨at_,p[i].To⟩] else o2):=by
 have hx:=hp.ne _ (List.getElem_mem hi)
 have hdn:∀ u∈q,u.To≤at_∨p[i].To≤u.From:=fun u hu=>hn.done u (by rw [List.take_of_length_le (Nat.le_refl _)];exact hu)
 have hlow:=hn.low
 have hl1:=hn.len
 have hl2:=h.len
 refine ⟨?_,fun z=>?_,fun s hs u hu=>?_,?_,fun lo hi' e1 e2=>?_⟩
 ·split
  ·next hc=>exact hn.vs.snoc hc (fun s hs=>(hn.ord s hs).1)
  ·exact hn.vs
 ·have hbase:(Mem o2 z∨(at_≤z∧z<p[i].To))↔Mem (p.take (i+1)) z∧¬ Mem q z:=by
   rw [hn.mem,h.mem,G6 hi,mem_append,Y5]
   constructor
   ·rintro ((g | g) | g)
    ·exact ⟨.inl g.1,g.2⟩
    ·exact ⟨.inr g.1,g.2.2⟩
    ·refine ⟨.inr ⟨by omega,g.2⟩,fun ⟨u,hu,g'⟩=>?_⟩
     rcases hdn u hu with k | k <;> omega
   ·rintro ⟨g | g,g'⟩
    ·exact .inl (.inl ⟨g,g'⟩)
    ·by_cases hz:z<at_
     ·exact .inl (.inr ⟨g,hz,g'⟩)
     ·exact .inr ⟨by omega,g.2⟩
  split
  ·rw [mem_append,Y5]
   exact hbase
  ·rw [← hbase]
   exact ⟨.inl,fun g=>g.elim id (fun g=>by omega)⟩
 ·have hlt:=hp.later hi u hu
  split at hs
  ·rcases List.mem_append.1 hs with hs | hs
   ·have:=(hn.ord s hs).2;omega
   ·rcases List.mem_singleton.1 hs with rfl
    simp only
    omega
  ·have:=(hn.ord s hs).2;omega
 ·have:(i+1) * (q.length+1)=i * (q.length+1)+(q.length+1):=Nat.succ_mul _ _
  split
  ·simp;omega
  ·omega
 ·have bx:=e1 _ (List.getElem_mem hi)
  obtain ⟨b1,b2,b3⟩:=hn.eb lo hi' e2 (h.eb lo hi' e1 e2) bx
  split
  ·exact b1.app (EB.one (by simp only;omega))
  ·exact b1
theorem b1X {p q:List Span} (hp:VS p) (hq:VS q) (h1:p.length≤100) (h2:q.length≤100):∃ r,l9 (a2f q p) ([],0)=some r∧LS p q r:=by
 have hb:∀ i,i≤p.length→i * (q.length+1)≤100 * 101:=fun i hi=>Nat.mul_le_mul (by omega) (by omega)
 refine Y3 (fun a i=>(a,i)) p.length (MO p q) _ (fun i hi a h=>?_) (fun a h=>?_) [] ⟨VS.nil,fun z=>by simp [Mem],fun s h=>(by cases h),Nat.zero_le _,fun _ _ _ _ s h=>(by cases h)⟩
 ·have hl:=h.len
  have hb1:=hb i (by omega)
  unfold a2f
  simp only
  rw [if_pos (decide_eq_true (by omega)),w9 _ _ hi]
  simp only [Option.bind_some]
  obtain ⟨⟨o2,at_⟩,er,hn⟩:=b4w hq (by omega) (hp.ne _ (List.getElem_mem hi)) h.vs (by omega) (fun s hs=>h.ord s hs _ (by rw [List.drop_eq_getElem_cons hi];exact List.mem_cons_self))
  rw [er]
  simp only at hn
  have hl2:=hn.len
  have hst:=MO.step hp hi h hn
  unfold a3B
  simp only [Option.bind_some]
  rw [G7 (n:=i) (by omega)]
  refine ⟨_,?_,hst⟩
  by_cases hc:at_<p[i].To
  ·rw [if_pos (decide_eq_true hc),if_pos hc,E5 _ _ _ (by simp;omega) (by decide)]
   rfl
  ·rw [if_neg (by simpa using hc),if_neg hc]
 ·unfold a2f
  simp only
  rw [if_neg (by simp)]
  have hm:=h.mem
  rw [List.take_of_length_le (Nat.le_refl _)] at hm
  exact ⟨a,rfl,h.vs,hm,h.len,h.eb⟩
theorem b1Y {a b:List Span} (ha:a.length<50) (hb:b.length<50):∃ r,a7U a b=some r∧LS a b r:=by
 unfold a7U
 obtain ⟨p,ep,hp⟩:=a6x (l:=a) (by omega)
 obtain ⟨q,eq,hq⟩:=a6x (l:=b) (by omega)
 rw [ep,eq]
 simp only [Option.bind_some]
 have l1:=hp.len
 have l2:=hq.len
 obtain ⟨r,er,hr⟩:=b1X hp.vs hq.vs (by omega) (by omega)
 rw [er]
 exact ⟨r,rfl,hr.vs,fun z=>by rw [hr.mem,hp.mem,hq.mem],Nat.le_trans hr.len (Nat.mul_le_mul l1 (by omega)),fun lo hi h1 h2=>hr.eb lo hi (hp.eb h1) (hq.eb h2)⟩
end Go.Proofs.YtdcafiefjakfeaaGreat.Sh
namespace Go.Proofs.YtdcafiefjakfeaaGreat.Sh
open Go
set_option linter.unusedVariables false
set_option linter.unusedSimpArgs false
theorem b1O {l:List Record} (h:VS15 l):∃ r,a3C l=some (r,0)∧NS (l.map a6m) r:=by
 have hl:=h.len
 unfold a3C
 rw [b0l h.toVL (by omega)]
 simp only [Option.bind_some,Bool.not_true,Bool.false_eq_true,if_false]
 have hw:l9 (a1w l) (([]:List Span),0)=some (l.map a6m):=by
  refine D9 (fun i=>((l.take i).map a6m,(i:Int))) l.length _ (by simp) (fun i hi=>?_) ?_
  ·unfold a1w
   simp only
   rw [if_pos (decide_eq_true (by omega)),w9 _ _ hi]
   simp only [Option.bind_some]
   rw [b2Q (h.rf _ (List.getElem_mem hi))]
   simp only [Option.bind_some]
   rw [E5 _ _ _ (by simp;omega) (by decide)]
   simp only [Option.bind_some]
   rw [G7 (by omega),G6 hi]
   simp only [List.map_append,List.map_cons,List.map_nil]
  ·unfold a1w
   simp only
   rw [if_neg (by simp),List.take_length]
 rw [hw]
 simp only [Option.bind_some]
 obtain ⟨r,er,hr⟩:=a6x (l:=l.map a6m) (by simp;omega)
 rw [er]
 exact ⟨r,rfl,hr⟩
theorem b4h {l:List Record} (h:VS15 l) {f t:Int} (h0:0≤f) (h1:f≤t) (h2:t≤9007199254740992):V3 l f t=some 0:=by
 have hl:=h.len
 unfold V3
 rw [b0l h.toVL (by omega)]
 simp only [Option.bind_some,Bool.not_true,Bool.false_eq_true,if_false]
 unfold Y2
 rw [decide_eq_true h0,decide_eq_true h1,decide_eq_true h2]
 rfl
structure GapsOf (l:List Record) (f t:Int) (g:List Span):Prop where
 vs:VS g
 mem:∀ z,Mem g z↔f≤z∧z<t∧¬ Mem (l.map a6m) z
 len:g.length≤l.length+1
 eb:∀ s∈g,f≤s.From∧s.To≤t
theorem gaps_ok {l:List Record} (h:VS15 l) (h40:l.length≤49) {f t:Int} (h0:0≤f) (h1:f≤t) (h2:t≤9007199254740992):∃ g,Y9 l f t=some (g,0)∧GapsOf l f t g:=by
 have hl:=h.len
 unfold Y9
 rw [b4h h h0 h1 h2]
 simp only [Option.bind_some,bne_self_eq_false,Bool.false_eq_true,if_false]
 obtain ⟨c,ec,hc⟩:=b1O h
 rw [ec]
 simp only [Option.bind_some]
 have hcl:=hc.len
 rw [List.length_map] at hcl
 obtain ⟨g,eg,hg⟩:=b1Y (a:=[(⟨f,t⟩:Span)]) (b:=c) (by simp) (by omega)
 rw [eg]
 refine ⟨g,rfl,hg.vs,fun z=>?_,?_,fun s hs=>?_⟩
 ·rw [hg.mem,Y5,hc.mem]
  exact ⟨fun ⟨⟨a,b⟩,d⟩=>⟨a,b,d⟩,fun ⟨a,b,d⟩=>⟨⟨a,b⟩,d⟩⟩
 ·have:=hg.len
  simp only [List.length_cons,List.length_nil] at this
  omega
 ·have hn:=hg.vs.ne s hs
  have h3:=((hg.mem s.From).1 ⟨s,hs,Int.le_refl _,hn⟩).1
  have h4:=((hg.mem (s.To - 1)).1 ⟨s,hs,by omega,by omega⟩).1
  have h3:=Y5.1 h3
  have h4:=Y5.1 h4
  simp only at h3 h4
  omega
theorem a9J {a b:Int}:I4 a b<0↔a<b:=by
 unfold I4
 split
 ·simp;omega
 ·split <;> simp <;> omega
structure Bord (A:List Record) (f t:Int) (B:List Int):Prop where
 asc:B.Pairwise (fun a b=>a<b)
 mem:∀ x,x∈B↔x=f∨x=t∨(f<x∧x<t∧∃ r∈A,∃ i:Nat,i≤r.Samples.length∧x=o5 r (i:Int))
theorem b5C (A:List Record) (f t:Int):Bord A f t (K6 I4 (a1T A f t)):=
 ⟨(a3l M3 (fun _ _=>Y1) _).imp fun h=>a9J.1 h,fun x=>by rw [a3t fun _ _=>Y1,mem_bord]⟩
section
variable {A:List Record} {f t:Int} {B:List Int}
theorem Bord.le (h:Bord A f t B) (ft:f≤t) {x:Int} (hx:x∈B):f≤x∧x≤t:=by
 rcases (h.mem x).1 hx with h | h | h <;> omega
theorem Bord.pos (h:Bord A f t B):0<B.length:=List.length_pos_of_mem ((h.mem f).2 (.inl rfl))
theorem Bord.mono (h:Bord A f t B) {i j:Nat} (hi:i<B.length) (hj:j<B.length) (hij:i<j):B[i]<B[j]:=List.pairwise_iff_getElem.1 h.asc i j hi hj hij
theorem Bord.first (h:Bord A f t B) (ft:f≤t):B[0]'h.pos=f:=by
 obtain ⟨k,hk,e⟩:=List.mem_iff_getElem.1 ((h.mem f).2 (.inl rfl))
 have h1:=h.le ft (List.getElem_mem h.pos)
 by_cases h0:k=0
 ·subst h0;exact e
 ·have:=h.mono h.pos hk (by omega)
  omega
theorem Bord.last (h:Bord A f t B) (ft:f≤t):B[B.length - 1]'(by have:=h.pos;omega)=t:=by
 have hp:=h.pos
 obtain ⟨k,hk,e⟩:=List.mem_iff_getElem.1 ((h.mem t).2 (.inr (.inl rfl)))
 have h1:=h.le ft (List.getElem_mem (show B.length - 1<B.length by omega))
 by_cases h0:k=B.length - 1
 ·subst h0;exact e
 ·have:=h.mono hk (show B.length - 1<B.length by omega) (by omega)
  omega
theorem Bord.hits (h:Bord A f t B) (hr:∀ r∈A,RF r) (ft:f≤t) {i:Nat} (hi:i+1<B.length) {z:Int} (z0:B[i]≤z) (z1:z<B[i+1]):hits A z=hits A B[i]:=by
 unfold Sh.hits
 have key:∀ r∈A,a5U r z=a5U r B[i]:=by
  intro r hrA
  have hR:=hr r hrA
  have b0:=h.le ft (List.getElem_mem (show i<B.length by omega))
  have b1:=h.le ft (List.getElem_mem hi)
  have hj:∀ j:Nat,j≤r.Samples.length→(o5 r (j:Int)≤z↔o5 r (j:Int)≤B[i]):=by
   intro j hj
   refine ⟨fun hz=>?_,fun hz=>by omega⟩
   refine Classical.byContradiction fun hn=>?_
   have hx:o5 r (j:Int)∈B:=(h.mem _).2 (.inr (.inr ⟨by omega,by omega,r,hrA,j,hj,rfl⟩))
   obtain ⟨k,hk,e⟩:=List.mem_iff_getElem.1 hx
   rcases Nat.lt_trichotomy k i with hlt | heq | hgt
   ·have:=h.mono hk (show i<B.length by omega) hlt
    omega
   ·subst heq;omega
   ·by_cases e2:k=i+1
    ·subst e2;omega
    ·have:=h.mono hi hk (by omega)
     omega
  unfold a5U
  congr 1
  cases he:b1R r z with
  | some j=>
   obtain ⟨a,b,c⟩:=b0z he
   have h1:=(hj j (by omega)).1 b
   have h2:¬ o5 r ((j+1:Nat):Int)≤B[i]:=fun hc=>by
    have:=(hj (j+1) (by omega)).2 hc
    rw [show ((j+1:Nat):Int)=(j:Int)+1 by omega] at this
    omega
   rw [show ((j+1:Nat):Int)=(j:Int)+1 by omega] at h2
   exact (b1C hR a h1 (by omega)).symm
  | none=>
   symm
   refine a7b hR fun ⟨a,b⟩=>?_
   have h1:=(hj 0 (Nat.zero_le _)).2 a
   have h2:¬ o5 r ((r.Samples.length:Nat):Int)≤z:=fun hc=>by
    have:=(hj _ (Nat.le_refl _)).1 hc
    omega
   obtain ⟨j,e⟩:=b5J hR h1 (by omega)
   rw [he] at e
   cases e
 have go:∀ L:List Record,(∀ r∈L,a5U r z=a5U r B[i])→L.filterMap (a5U · z)=L.filterMap (a5U · B[i]):=by
  intro L
  induction L with
  | nil=>intro _;rfl
  | cons r L ih=>
   intro hL
   rw [List.filterMap_cons,List.filterMap_cons,hL r List.mem_cons_self,ih fun q hq=>hL q (List.mem_cons_of_mem _ hq)]
 exact go A key
end
def Adj (x y:Overlap):Prop:=x.To≤y.From∧(x.To=y.From→x.Same≠y.Same)
structure OvTo (A:List Record) (f m:Int) (out:List Overlap):Prop where
 ne:∀ x∈out,x.From<x.To
 pw:out.Pairwise Adj
 top:∀ x∈out,x.To≤m
 mem:∀ z b,(∃ x∈out,x.From≤z∧z<x.To∧x.Same=b)↔(f≤z∧z<m∧2≤(hits A z).length∧allEq (hits A z)=b)
theorem OvTo.skip {A:List Record} {f m m':Int} {out:List Overlap} (h:OvTo A f m out) (hm:m≤m') (hn:∀ z,m≤z→z<m'→(hits A z).length<2):OvTo A f m' out:=
 ⟨h.ne,h.pw,fun x hx=>by have:=h.top x hx;omega,fun z b=>(h.mem z b).trans ⟨fun ⟨a,b,c,d⟩=>⟨a,by omega,c,d⟩,fun ⟨a,b,c,d⟩=>⟨a,by
  refine Classical.byContradiction fun h1=>?_
  have:=hn z (by omega) b
  omega,c,d⟩⟩⟩
theorem OvTo.grow {A:List Record} {f m m':Int} {o:List Overlap} {x:Overlap} (h:OvTo A f m (o ++ [x])) (fm:f≤m) (hm:m<m') (hx:x.To=m) (hn:∀ z,m≤z→z<m'→2≤(hits A z).length∧allEq (hits A z)=x.Same):OvTo A f m' (o ++ [⟨x.From,m',x.Same⟩]):=by
 have hpw:=List.pairwise_append.1 h.pw
 have hxn:=h.ne x (by simp)
 refine ⟨fun y hy=>?_,List.pairwise_append.2 ⟨hpw.1,List.pairwise_singleton _ _,fun u hu v hv=>?_⟩,fun y hy=>?_,fun z b=>?_⟩
 ·rcases List.mem_append.1 hy with hy | hy
  ·exact h.ne y (List.mem_append_left _ hy)
  ·rcases List.mem_singleton.1 hy with rfl
   simp only;omega
 ·rcases List.mem_singleton.1 hv with rfl
  exact hpw.2.2 u hu x List.mem_cons_self
 ·rcases List.mem_append.1 hy with hy | hy
  ·have:=h.top y (List.mem_append_left _ hy);omega
  ·rcases List.mem_singleton.1 hy with rfl
   exact Int.le_refl _
 ·have hmem:=h.mem z b
  constructor
  ·rintro ⟨y,hy,y1,y2,y3⟩
   rcases List.mem_append.1 hy with hy | hy
   ·obtain ⟨a1,a2,a3⟩:=hmem.1 ⟨y,List.mem_append_left _ hy,y1,y2,y3⟩
    exact ⟨a1,by omega,a3⟩
   ·rcases List.mem_singleton.1 hy with rfl
    simp only at y1 y2 y3
    by_cases hz:z<m
    ·obtain ⟨a1,a2,a3⟩:=hmem.1 ⟨x,by simp,y1,by omega,y3⟩
     exact ⟨a1,by omega,a3⟩
    ·obtain ⟨a1,a2⟩:=hn z (by omega) y2
     exact ⟨by omega,y2,a1,a2.trans y3⟩
  ·rintro ⟨a1,a2,a3,a4⟩
   by_cases hz:z<m
   ·obtain ⟨y,hy,y1,y2,y3⟩:=hmem.2 ⟨a1,hz,a3,a4⟩
    rcases List.mem_append.1 hy with hy | hy
    ·exact ⟨y,List.mem_append_left _ hy,y1,y2,y3⟩
    ·rcases List.mem_singleton.1 hy with rfl
     exact ⟨_,List.mem_append_right _ List.mem_cons_self,y1,by simp only;omega,y3⟩
   ·obtain ⟨b1,b2⟩:=hn z (by omega) a2
    exact ⟨_,List.mem_append_right _ List.mem_cons_self,by simp only;omega,a2,by simp only;rw [← b2];exact a4⟩
theorem OvTo.snoc {A:List Record} {f m m':Int} {out:List Overlap} {e:Bool} (h:OvTo A f m out) (fm:f≤m) (hm:m<m') (hl:∀ o x,out=o ++ [x]→x.To=m→x.Same≠e) (hn:∀ z,m≤z→z<m'→2≤(hits A z).length∧allEq (hits A z)=e):OvTo A f m' (out ++ [⟨m,m',e⟩]):=by
 refine ⟨fun y hy=>?_,List.pairwise_append.2 ⟨h.pw,List.pairwise_singleton _ _,fun u hu v hv=>?_⟩,fun y hy=>?_,fun z b=>?_⟩
 ·rcases List.mem_append.1 hy with hy | hy
  ·exact h.ne y hy
  ·rcases List.mem_singleton.1 hy with rfl
   exact hm
 ·rcases List.mem_singleton.1 hv with rfl
  refine ⟨h.top u hu,fun hu2=>?_⟩
  rcases List.eq_nil_or_concat out with rfl | ⟨o,x,rfl⟩
  ·cases hu
  ·rw [List.concat_eq_append] at hu h hl
   rcases List.mem_append.1 hu with hu | hu
   ·exfalso
    have h1:=(List.pairwise_append.1 h.pw).2.2 u hu x List.mem_cons_self
    have h2:=h.ne x (by simp)
    have h3:=h.top x (by simp)
    have h4:=h1.1
    simp only at hu2
    omega
   ·rcases List.mem_singleton.1 hu with rfl
    exact hl o u rfl hu2
 ·rcases List.mem_append.1 hy with hy | hy
  ·have:=h.top y hy;omega
  ·rcases List.mem_singleton.1 hy with rfl
   exact Int.le_refl _
 ·have hmem:=h.mem z b
  constructor
  ·rintro ⟨y,hy,y1,y2,y3⟩
   rcases List.mem_append.1 hy with hy | hy
   ·obtain ⟨a1,a2,a3⟩:=hmem.1 ⟨y,hy,y1,y2,y3⟩
    exact ⟨a1,by omega,a3⟩
   ·rcases List.mem_singleton.1 hy with rfl
    simp only at y1 y2 y3
    obtain ⟨a1,a2⟩:=hn z y1 y2
    exact ⟨by omega,y2,a1,a2.trans y3⟩
  ·rintro ⟨a1,a2,a3,a4⟩
   by_cases hz:z<m
   ·obtain ⟨y,hy,y1⟩:=hmem.2 ⟨a1,hz,a3,a4⟩
    exact ⟨y,List.mem_append_left _ hy,y1⟩
   ·obtain ⟨b1,b2⟩:=hn z (by omega) a2
    exact ⟨_,List.mem_append_right _ List.mem_cons_self,by simp only;omega,a2,by simp only;rw [← b2];exact a4⟩
theorem b4z {l:List Record} (h:VS15 l) (h6:∀ r∈l,r.Samples.length≤30) (hl6:l.length≤30) {f t:Int} (h0:0≤f) (h1:f≤t) (h2:t≤9007199254740992):∃ o,P6 l f t=some (o,0)∧OvTo (K6 I7 l) f t o∧o.length≤1000:=by
 unfold P6
 rw [b4h h h0 h1 h2]
 simp only [Option.bind_some,bne_self_eq_false,Bool.false_eq_true,if_false]
 rw [a9H h]
 simp only [Option.bind_some]
 obtain ⟨A,hA⟩:∃ A,K6 I7 l=A:=⟨_,rfl⟩
 have hAl:A.length≤l.length:=by rw [← hA];exact a0T _ _
 have hAm:∀ r∈A,r∈l:=fun r hr=>a0n.1 (hA ▸ hr)
 have hAr:∀ r∈A,RF r:=fun r hr=>h.rf r (hAm r hr)
 rw [hA,b1K hAr (fun r hr=>by have:=h6 r (hAm r hr);omega) (by omega)]
 simp only [Option.bind_some]
 have hBd:=b5C A f t
 have hBl:(K6 I4 (a1T A f t)).length≤2+(30+1) * 30:=by
  have e1:=a0T I4 (a1T A f t)
  have e2:=a9I (A:=A) (f:=f) (t:=t) (k:=30) fun r hr=>h6 r (hAm r hr)
  have:=Nat.mul_le_mul_left 31 (show A.length≤30 by omega)
  omega
 obtain ⟨B,hB⟩:∃ B,K6 I4 (a1T A f t)=B:=⟨_,rfl⟩
 rw [hB] at hBd hBl ⊢
 have hp:=hBd.pos
 have hle:∀ (x:Int) y,([]:List Overlap)=y ++ [⟨x,x,true⟩]→False:=fun x y hxy=>by simp at hxy
 obtain ⟨o,eo,ho,hol⟩:=Y3 (body:=G9 (A,0) B) (fun (a:List Overlap) i=>(a,i)) (B.length - 1) (fun i a=>(∃ hi:i<B.length,OvTo A f B[i] a)∧a.length≤i) (fun r=>OvTo A f t r∧r.length≤1000) (fun i hi a ⟨⟨hiB,hI⟩,hlen⟩=>by
  have hi1:i+1<B.length:=by omega
  have hfB:=hBd.le h1 (List.getElem_mem hiB)
  have hlt:=hBd.mono hiB hi1 (by omega)
  have hconst:∀ z,B[i]≤z→z<B[i+1]→hits A z=hits A B[i]:=fun z z0 z1=>hBd.hits hAr h1 hi1 z0 z1
  unfold G9
  simp only
  rw [G7 (n:=i) (by omega),if_pos (decide_eq_true (by omega)),w9 _ _ hiB]
  simp only [Option.bind_some]
  rw [look_ok hAr (by omega)]
  simp only [Option.bind_some]
  unfold R3 Q9
  simp only [Option.bind_some]
  rw [G7 (n:=i) (by omega)]
  obtain ⟨e,he⟩:∃ e,allEq (hits A B[i])=e:=⟨_,rfl⟩
  rw [he]
  by_cases hd:(hits A B[i]).length<2
  ·rw [if_pos (decide_eq_true (by omega))]
   exact ⟨a,rfl,⟨hi1,hI.skip (by omega) fun z z0 z1=>by rw [hconst z z0 z1];exact hd⟩,by omega⟩
  ·rw [if_neg (by simp;omega)]
   have hn:∀ z,B[i]≤z→z<B[i+1]→2≤(hits A z).length∧allEq (hits A z)=e:=fun z z0 z1=>by rw [hconst z z0 z1];exact ⟨by omega,he⟩
   rw [w9 B (i+1) hi1]
   rcases List.eq_nil_or_concat a with rfl | ⟨o,x,rfl⟩
   ·simp only [List.length_nil]
    rw [if_neg (by decide)]
    simp only [Option.bind_some,Bool.false_eq_true,if_false]
    rw [E5 _ _ _ (by simp) (by decide)]
    simp only [Option.bind_some]
    exact ⟨_,rfl,⟨hi1,hI.snoc hfB.1 hlt (fun o x hox=>by simp at hox) hn⟩,by simp⟩
   ·rw [List.concat_eq_append] at hI hlen ⊢
    have hol:(o ++ [x]).length=o.length+1:=by simp
    rw [hol] at hlen
    simp only [hol]
    rw [if_pos (decide_eq_true (by omega)),show w64 (((o.length+1:Nat):Int) - 1)=(o.length:Int) by rw [y8 (by omega) (by omega)];omega,a8K]
    simp only [Option.bind_some]
    have hsnoc:(∀ hx:x.To=B[i],x.Same≠e)→∃ a',((U8 24 (o ++ [x]) ([(⟨B[i],B[i+1],e⟩:Overlap)]:List Overlap)).bind fun l768=>some (Sum.inl (l768,((i+1:Nat):Int)):List Overlap × Int ⊕ List Overlap))=some (.inl (a',((i+1:Nat):Int)))∧(∃ hi:i+1<B.length,OvTo A f B[i+1] a')∧a'.length≤i+1:=fun hx=>by
     rw [E5 _ _ _ (by simp;omega) (by decide)]
     refine ⟨_,rfl,⟨hi1,hI.snoc hfB.1 hlt (fun o' x' hox hto=>?_) hn⟩,by simp;omega⟩
     obtain ⟨_,e2⟩:=List.append_inj' hox rfl
     simp only [List.cons.injEq,and_true] at e2
     rw [← e2] at hto ⊢
     exact hx hto
    by_cases hc1:x.To=B[i]
    ·rw [if_pos (by simp [hc1])]
     simp only [Option.bind_some]
     by_cases hc2:x.Same=e
     ·rw [if_pos (by simp [hc2])]
      rw [a5N]
      simp only [Option.bind_some]
      refine ⟨_,rfl,⟨hi1,?_⟩,by simp;omega⟩
      exact hI.grow hfB.1 hlt hc1 fun z z0 z1=>by rw [hc2];exact hn z z0 z1
     ·rw [if_neg (by simpa using hc2)]
      exact hsnoc fun _=>hc2
    ·rw [if_neg (by simpa using hc1)]
     simp only [Option.bind_some,Bool.false_eq_true,if_false]
     exact hsnoc fun hx=>absurd hx hc1) (fun a ⟨⟨hiB,hI⟩,hlen⟩=>by
  unfold G9
  simp only
  rw [G7 (n:=B.length - 1) (by omega),if_neg (by simp;omega)]
  refine ⟨a,rfl,?_,by omega⟩
  have:=hBd.last h1
  rw [this] at hI
  exact hI) [] ⟨⟨hp,⟨by simp,List.Pairwise.nil,by simp,fun z b=>⟨fun ⟨x,hx,_⟩=>(by cases hx),fun ⟨a1,a2,_⟩=>(by have:=hBd.first h1;omega)⟩⟩⟩,Nat.le_refl _⟩
 rw [eo]
 simp only [Option.bind_some]
 rw [if_neg (by simp;omega)]
 exact ⟨o,rfl,hA ▸ ho,hol⟩
end Go.Proofs.YtdcafiefjakfeaaGreat.Sh
namespace Go.Proofs.YtdcafiefjakfeaaGreat.Sh
open Go
set_option linter.unusedVariables false
set_option linter.unusedSimpArgs false
theorem a0H (n lo hi:Int):X6 n lo hi=some (inB n lo hi):=rfl
theorem a9Z (a b:Int) (ha:0≤a) (hb:0≤b):a7i a b=some (Int.gcd a b:Int):=by
 obtain ⟨m,rfl⟩:=Int.eq_ofNat_of_zero_le ha
 obtain ⟨n,rfl⟩:=Int.eq_ofNat_of_zero_le hb
 unfold a7i
 rw [b5G (body:=b0a) (fun _=>rfl)]
 rfl
theorem a8w (r:Rate):a5o r=some (a5v r):=by
 unfold a5o a5v
 simp only [a0H,Option.bind]
 by_cases h1:inB r.Num 1 4096=true
 ·by_cases h2:inB r.Den 1 4096=true
  ·have a1:=V7.1 h1
   have a2:=V7.1 h2
   rw [if_pos h1,h1,h2,a9Z _ _ (by omega) (by omega)]
   simp only [if_true,Bool.true_and,Option.some.injEq]
   rw [Bool.eq_iff_iff];simp;omega
  ·simp only [Bool.not_eq_true] at h2
   simp [h1,h2]
 ·simp only [Bool.not_eq_true] at h1
  simp [h1]
theorem a9f (start:Int) (r:Rate) (k:Int):a4J start r k=some (timeV start r k):=by
 unfold a4J timeV
 rw [a8w]
 simp only [a0H,Option.bind]
 by_cases h:a5v r=true
 ·have hr:=a2A.1 h
  rw [h]
  simp only [Bool.not_true,Bool.false_eq_true,if_false,if_true]
  by_cases h1:inB start 0 9007199254740992=true
  ·rw [h1]
   simp only [Bool.not_true,Bool.false_eq_true,if_false,Bool.true_and]
   by_cases h2:inB k 0 16777216=true
   ·have a1:=V7.1 h1
    have a2:=V7.1 h2
    obtain ⟨e0,e1,e2,e3⟩:=a9m hr a2.1 a2.2
    have hd0:=hr.d0
    have hd1:=hr.d1
    have hn0:=hr.n0
    have q1:k * r.Den≤16777216 * 4096:=Int.mul_le_mul a2.2 hd1 (by omega) (by omega)
    have q0:0≤k * r.Den:=Int.mul_nonneg a2.1 (by omega)
    have qe:k * r.Den * 1000000=k * (r.Den * 1000000):=Int.mul_assoc _ _ _
    rw [h2]
    simp only [Bool.not_true,Bool.false_eq_true,if_false,if_true]
    rw [y8 (x:=k * r.Den) (by omega) (by omega),qe,y8 (by omega) (by omega),b0E (by omega) e0 (by omega)]
    simp only
    rw [y8 (by omega) (by omega)]
   ·simp only [Bool.not_eq_true] at h2
    rw [h2];simp
  ·simp only [Bool.not_eq_true] at h1
   rw [h1];simp
 ·simp only [Bool.not_eq_true] at h
  rw [h];simp
end Go.Proofs.YtdcafiefjakfeaaGreat.Sh
namespace Go.Proofs.YtdcafiefjakfeaaGreat.Sh
open Go
set_option linter.unusedVariables false
set_option linter.unusedSimpArgs false
theorem a4V (s:ByteArray) (lo hi:Int) (hs:s.size≤9223372036854775807):a3S s lo hi=some (a1s s lo hi):=by
 unfold a3S a1s
 have hl:s.size=(bts s).length:=by simp [bts]
 have step:∀ (i:Nat) (hi':i<(bts s).length),a4W s lo hi (i:Int)=if a6S (((bts s)[i]).toNat:Int)=true then some (.inl ((i+1:Nat):Int)) else some (.inr false):=by
  intro i hi'
  unfold a4W
  rw [if_pos (decide_eq_true (by omega)),a9n s i hi']
  generalize (((bts s)[i]).toNat:Int)=c
  simp only [Option.bind]
  rw [y8 (by omega) (by omega)]
  unfold a6S
  by_cases h1:65≤c <;> by_cases h2:c≤90 <;> by_cases h3:48≤c <;> by_cases h4:c≤57 <;> simp [h1,h2,h3,h4]
 rw [a9T (bts s).length (fun i=>a6S (((bts s).getD i 0).toNat:Int)) false (inB s.size lo hi)]
 ·rw [b0G (bts s) (fun c=>a6S c.toNat) _ (fun i hi=>by simp [List.getD_eq_getElem?_getD,hi])]
  cases (bts s).all (fun c=>a6S c.toNat) <;> simp
 ·intro i hi hp
  have e:(bts s).getD i 0=(bts s)[i]:=by simp [List.getD_eq_getElem?_getD,hi]
  rw [e] at hp
  rw [step i hi,if_pos hp]
 ·intro i hi hp
  have e:(bts s).getD i 0=(bts s)[i]:=by simp [List.getD_eq_getElem?_getD,hi]
  rw [e] at hp
  rw [step i hi,hp]
  rfl
 ·unfold a4W
  rw [if_neg (by simp;omega)]
  rfl
theorem b2w (s:ByteArray):s.toList=bts s:=ByteArray.toList_eq s
theorem nil_iff (s:ByteArray):(s.toList == (⟨#[]⟩:ByteArray).toList)=decide (s.size=0):=by
 rw [b2w,b2w]
 have:bts (⟨#[]⟩:ByteArray)=[]:=rfl
 rw [this,Bool.eq_iff_iff]
 simp [bts,← Array.size_eq_zero_iff]
theorem b2h {s:SourceID} (h:SrcSm s):a6C s=some (a6q s):=by
 unfold a6C a6q
 rw [a4V _ _ _ h.n,a4V _ _ _ h.s,a4V _ _ _ h.l,a4V _ _ _ h.c,nil_iff]
 have e:(decide (s.Location.size=0) || a1s s.Location 2 2)=(a1s s.Location 0 2 && !((s.Location.size:Int) == 1)):=by
  unfold a1s
  by_cases h0:s.Location.size=0
  ·have hb:bts s.Location=[]:=by
    have:(bts s.Location).length=0:=by simpa [bts] using h0
    exact List.eq_nil_of_length_eq_zero this
   rw [hb]
   simp [h0,inB]
  ·rw [decide_eq_false h0,Bool.false_or]
   cases (bts s.Location).all (fun c=>a6S c.toNat)
   ·rfl
   ·simp only [Bool.true_and,inB]
    rw [Bool.eq_iff_iff]
    simp
    omega
 simp only [Option.bind]
 generalize a1s s.Network 1 2=a at *
 generalize a1s s.Station 1 5=b at *
 generalize a1s s.Channel 3 3=c at *
 generalize a1s s.Location 2 2=d at *
 generalize a1s s.Location 0 2=f at *
 generalize decide (s.Location.size=0)=g at *
 generalize ((s.Location.size:Int) == 1)=k at *
 revert e
 cases a <;> cases b <;> cases c <;> cases d <;> cases f <;> cases g <;> cases k <;> decide
theorem b0M (l:List Int) (h:l.length≤1000000000):a4Y l=some (a8E l):=by
 unfold a4Y a8E
 rw [a9T l.length (fun i=>inB (l.getD i 0) (-1073741823) 1073741823) false true]
 ·rw [b0G l (fun x=>inB x (-1073741823) 1073741823) _ (fun i hi=>by simp [List.getD_eq_getElem?_getD,hi])]
  cases l.all (fun x=>inB x (-1073741823) 1073741823) <;> rfl
 ·intro i hi hp
  have e:l.getD i 0=l[i]:=by simp [List.getD_eq_getElem?_getD,hi]
  rw [e] at hp
  unfold a3b
  rw [if_pos (decide_eq_true (by omega)),w9 _ _ hi]
  simp only [Option.bind,a5E,a0H,hp,Bool.not_true,Bool.false_eq_true,if_false]
  rw [y8 (by omega) (by omega)]
  rfl
 ·intro i hi hp
  have e:l.getD i 0=l[i]:=by simp [List.getD_eq_getElem?_getD,hi]
  rw [e] at hp
  unfold a3b
  rw [if_pos (decide_eq_true (by omega)),w9 _ _ hi]
  simp only [Option.bind,a5E,a0H,hp,Bool.not_false,if_true]
 ·unfold a3b
  rw [if_neg (by simp)]
  rfl
theorem b2I (a b:List Int) (h:a.length≤1000000000):a7Q a b=some (decide (a=b)):=by
 unfold a7Q
 by_cases hl:a.length=b.length
 ·rw [if_neg (by simp [hl])]
  refine b0A a b (fun x y=>x == y) (fun x y=>by simp) hl (fun i hi he=>?_) (fun i hi he=>?_) ?_
  ·simp only [a4Z]
   rw [if_pos (decide_eq_true (by omega)),w9 _ _ hi,w9 _ _ (show i<b.length by omega)]
   simp only [Option.bind,bne,he,Bool.not_true,Bool.false_eq_true,if_false]
   rw [y8 (by omega) (by omega)]
   rfl
  ·simp only [a4Z]
   rw [if_pos (decide_eq_true (by omega)),w9 _ _ hi,w9 _ _ (show i<b.length by omega)]
   simp only [Option.bind,bne,he,Bool.not_false,if_true]
  ·simp only [a4Z]
   rw [if_neg (by simp)]
   rfl
 ·rw [if_pos (by simp;omega),decide_eq_false (fun h=>hl (by rw [h]))]
theorem a9h (r:Record) (i:Int):J4 r i=some (timeV r.Start r.Rate (w64 (r.First+i))).1:=by
 unfold J4
 rw [a9f]
 rfl
theorem a1j {r:Record} (hs:SrcSm r.Source) (hl:r.Samples.length≤1000000000):X7 r=some (a5m r):=by
 unfold X7
 rw [b2h hs,a8w,b0M _ hl]
 simp only [a0H,a9h,Option.bind]
 have key:a5m r=(a6q r.Source && a5v r.Rate && inB r.Start 0 9007199254740992 && inB r.First 0 16777216 && inB r.Samples.length 1 65536 && !(decide (16777216<w64 (r.First+r.Samples.length))) && a8E r.Samples &&
   (inB r.Error 0 1099511627776 && inB r.Run 0 65535 && inB r.Seq 0 1073741824 && decide ((timeV r.Start r.Rate (w64 (r.First+r.Samples.length))).1≤9007199254740992))):=by
  rw [Bool.eq_iff_iff,R5]
  simp only [Bool.and_eq_true,V7,decide_eq_true_eq,Bool.not_eq_true',decide_eq_false_iff_not]
  constructor
  ·intro h
   have a1:=h.l1
   have a2:=h.f0
   have a3:=h.f1
   rw [y8 (by omega) (by omega),a8H h.rv h.s0 h.s1 (by omega) (by omega)]
   exact ⟨⟨⟨⟨⟨⟨⟨h.src,a2A.2 h.rv⟩,h.s0,h.s1⟩,a2,by omega⟩,by have:=h.l0;omega,by omega⟩,by omega⟩,h.smp⟩,⟨⟨⟨h.e0,h.e1⟩,h.r0,h.r1⟩,h.q0,h.q1⟩,h.te⟩
  ·rintro ⟨⟨⟨⟨⟨⟨⟨b1,b2⟩,b3,b4⟩,b5,b6⟩,b7,b8⟩,b9⟩,b10⟩,⟨⟨⟨b11,b12⟩,b13,b14⟩,b15,b16⟩,b17⟩
   rw [y8 (by omega) (by omega)] at b9 b17
   have hrv:=a2A.1 b2
   rw [a8H hrv b3 b4 (by omega) (by omega)] at b17
   exact ⟨b1,by omega,by omega,b5,by omega,b11,b12,b13,b14,b15,b16,hrv,b3,b4,b17,b10⟩
 rw [key]
 cases a6q r.Source <;> cases a5v r.Rate <;> cases inB r.Start 0 9007199254740992 <;> cases inB r.First 0 16777216 <;> cases inB (r.Samples.length:Int) 1 65536 <;> try rfl
 cases decide (16777216<w64 (r.First+(r.Samples.length:Int))) <;> cases a8E r.Samples <;> cases inB r.Error 0 1099511627776 <;> cases inB r.Run 0 65535 <;> cases inB r.Seq 0 1073741824 <;> rfl
theorem RF.refvalid {r:Record} (h:RF r):X7 r=some true:=by
 rw [a1j (a7V h.src) (by have:=h.l1;omega),R5.2 h]
theorem RF.reftime {r:Record} (h:RF r) {i:Int} (i0:0≤i) (i1:i≤r.Samples.length):J4 r i=some (o5 r i):=by
 have a3:=h.f0
 have a4:=h.f1
 rw [a9h,y8 (by omega) (by omega),h.timeV i0 i1]
theorem RF.refSpan {r:Record} (h:RF r):a2D r=some (⟨o5 r 0,o5 r r.Samples.length⟩,0):=by
 unfold a2D
 rw [h.refvalid,h.reftime (Int.le_refl 0) (by omega),h.reftime (by omega) (Int.le_refl _)]
 rfl
end Go.Proofs.YtdcafiefjakfeaaGreat.Sh
namespace Go.Proofs.YtdcafiefjakfeaaGreat.Sh
open Go
set_option linter.unusedVariables false
set_option linter.unusedSimpArgs false
theorem b1F (a b:Int):K8 a b=some (I4 a b):=by
 unfold K8 I4
 by_cases h1:a<b
 ·simp [h1]
 ·by_cases h2:b<a
  ·simp [h1,h2]
  ·simp [h1,h2]
theorem rcmpS_eq (a b:ByteArray):a0W a b=some (a8h a b):=by
 unfold a0W
 rw [b1M]
 cases Op.bytesLess a.toList b.toList
 ·cases (a.toList == b.toList) <;> simp
 ·simp
def fst0 {β:Type} (f:Int→β) (z:β) (v:Int):β:=if v≠0 then f v else z
theorem orL_0 {x:Int} {r:List Int} (h:x=0):orL (x :: r)=orL r:=by simp only [orL];rw [if_neg (by omega)]
theorem orL_1 {x:Int} {r:List Int} (h:x≠0):orL (x :: r)=x:=by simp only [orL];rw [if_pos h]
theorem a7a {β:Type} (f:Int→β) (z:β) (x:Int) (r:List Int):fst0 f z (orL (x :: r))=if x≠0 then f x else fst0 f z (orL r):=by
 by_cases h:x=0
 ·rw [orL_0 h,if_neg (by omega)]
 ·rw [orL_1 h,if_pos h];unfold fst0;rw [if_pos h]
theorem a9P {β:Type} (f:Int→β) (z:β):fst0 f z (orL [])=z:=by unfold fst0 orL;rfl
theorem b3z {α:Type} {x:Int} {a r s:α} (h:r=s):(if x≠0 then a else r)=(if x≠0 then a else s):=by rw [h]
theorem a7E {β:Type} {body:Int→Option (Int ⊕ β)} (l:List Int) (f:Int→β) (z:β) (hl:l.length≤1000000)
  (h1:∀ i:Nat,(hi:i<l.length)→l[i]=0→body (i:Int)=some (.inl ((i+1:Nat):Int))) (h2:∀ i:Nat,(hi:i<l.length)→l[i]≠0→body (i:Int)=some (.inr (f l[i])))
  (h3:orL l=0→body (l.length:Int)=some (.inr z)):l9 body 0=some (fst0 f z (orL l)):=by
 by_cases h0:orL l=0
 ·have h3:=h3 h0
  have key:∀ m,m≤l.length→l9 body ((l.length - m:Nat):Int)=some (fst0 f z (orL (l.drop (l.length - m)))):=by
   intro m
   induction m with
   | zero=>
    intro _
    rw [G8,Nat.sub_zero,h3,List.drop_length,a9P];rfl
   | succ m ih=>
    intro hm
    have ih:=ih (by omega)
    rw [show l.length - m=l.length - (m+1)+1 by omega] at ih
    have hi:l.length - (m+1)<l.length:=by omega
    rw [G8,List.drop_eq_getElem_cons hi,a7a]
    by_cases hx:l[l.length - (m+1)]=0
    ·rw [h1 _ hi hx,if_neg (show ¬ l[l.length - (m+1)]≠0 by omega)]
     exact ih
    ·rw [h2 _ hi hx,if_pos hx];rfl
  have:=key l.length (Nat.le_refl _)
  rw [Nat.sub_self] at this
  exact this
 ·have key:∀ m,m≤l.length→orL (l.drop (l.length - m))≠0→l9 body ((l.length - m:Nat):Int)=some (fst0 f z (orL (l.drop (l.length - m)))):=by
   intro m
   induction m with
   | zero=>
    intro _ hn
    rw [Nat.sub_zero,List.drop_length] at hn
    exact absurd rfl hn
   | succ m ih=>
    intro hm hn
    have ih:=ih (by omega)
    rw [show l.length - m=l.length - (m+1)+1 by omega] at ih
    have hi:l.length - (m+1)<l.length:=by omega
    rw [List.drop_eq_getElem_cons hi] at hn
    rw [G8,List.drop_eq_getElem_cons hi,a7a]
    by_cases hx:l[l.length - (m+1)]=0
    ·rw [orL_0 hx] at hn
     rw [h1 _ hi hx,if_neg (show ¬ l[l.length - (m+1)]≠0 by omega)]
     exact ih hn
    ·rw [h2 _ hi hx,if_pos hx];rfl
  have:=key l.length (Nat.le_refl _) (by rw [Nat.sub_self];exact h0)
  rw [Nat.sub_self] at this
  exact this
theorem b5k (a b:SourceID):a4U a b=some (a5R a b):=by
 unfold a4U
 simp only [rcmpS_eq,Option.bind]
 rw [a7E (l:=[a8h a.Network b.Network,a8h a.Station b.Station,a8h a.Location b.Location,a8h a.Channel b.Channel]) (f:=id) (z:=0) (by simp)]
 ·simp only [a7a,a9P,a5R,andThen,Option.some.injEq,id]
  refine b3z (b3z (b3z ?_))
  split <;> omega
 ·intro i hi hx
  unfold a2Z
  rw [if_pos (decide_eq_true (by simp at hi;omega)),w9 _ _ hi]
  simp only [Option.bind,hx]
  rw [y8 (by omega) (by simp at hi;omega)];rfl
 ·intro i hi hx
  unfold a2Z
  rw [if_pos (decide_eq_true (by simp at hi;omega)),w9 _ _ hi]
  simp only [Option.bind]
  rw [if_pos (by simpa using hx)];rfl
 ·intro _
  unfold a2Z
  rw [if_neg (by simp)];rfl
theorem b5K:∀ (a b:List Int),a.length=b.length→a0y I4 a b=orL (List.zipWith I4 a b)
 | [],[],_=>rfl
 | x :: a,y :: b,h=>by
  simp only [a0y,List.zipWith_cons_cons,orL]
  rw [b5K a b (by simpa using h)]
theorem rlex_eq (a b:Record) (hl:a.Samples.length=b.Samples.length) (ha:a.Samples.length≤1000000):l9 (a1i a b) 0=some (a0y I4 a.Samples b.Samples):=by
 have hz:(List.zipWith I4 a.Samples b.Samples).length=a.Samples.length:=by simp [hl]
 rw [a7E (l:=List.zipWith I4 a.Samples b.Samples) (f:=id) (z:=0) (by omega)]
 ·rw [b5K _ _ hl]
  simp only [fst0,id,Option.some.injEq]
  split <;> omega
 ·intro i hi hx
  rw [List.getElem_zipWith] at hx
  unfold a1i
  rw [if_pos (decide_eq_true (by omega)),w9 _ _ (show i<a.Samples.length by omega),w9 _ _ (show i<b.Samples.length by omega)]
  simp only [Option.bind,b1F,hx]
  rw [y8 (by omega) (by omega)];rfl
 ·intro i hi hx
  rw [List.getElem_zipWith] at hx ⊢
  unfold a1i
  rw [if_pos (decide_eq_true (by omega)),w9 _ _ (show i<a.Samples.length by omega),w9 _ _ (show i<b.Samples.length by omega)]
  simp only [Option.bind,b1F]
  rw [if_pos (by simpa using hx)];rfl
 ·intro _
  rw [hz]
  unfold a1i
  rw [if_neg (by simp)];rfl
theorem b4C {a b:Record} (ha:RSm a) (h6:a.Samples.length≤1000000):a1h a b (a3q a) (a3q b)=some (I7 a b):=by
 unfold a1h
 simp only [b5k,b1F,Option.bind]
 rw [a7E (l:=[a5R a.Source b.Source,I4 (a3q a) (a3q b),I4 a.Start b.Start,I4 a.First b.First,I4 a.Rate.Num b.Rate.Num,I4 a.Rate.Den b.Rate.Den,I4 a.Error b.Error,I4 a.Run b.Run,I4 a.Seq b.Seq,I4 a.Samples.length b.Samples.length])
   (f:=id) (z:=a0y I4 a.Samples b.Samples) (by simp)]
 ·simp only [a7a,a9P,I7,andThen,id]
 ·intro i hi hx
  unfold a3c
  rw [if_pos (decide_eq_true (by simp at hi;omega)),w9 _ _ hi]
  simp only [Option.bind,hx]
  rw [y8 (by omega) (by simp at hi;omega)];rfl
 ·intro i hi hx
  unfold a3c
  rw [if_pos (decide_eq_true (by simp at hi;omega)),w9 _ _ hi]
  simp only [Option.bind]
  rw [if_pos (by simpa using hx)];rfl
 ·intro h0
  have hl:a.Samples.length=b.Samples.length:=by
   refine Classical.byContradiction fun hn=>?_
   have hne:I4 a.Samples.length b.Samples.length≠0:=fun h=>hn (by have:=Y1 h;omega)
   have last:∀ l:List Int,∀ x,x≠0→orL (l ++ [x])≠0:=by
    intro l x hx
    induction l with
    | nil=>rw [List.nil_append,orL_1 hx];exact hx
    | cons y l ih=>
     rw [List.cons_append]
     by_cases hy:y=0
     ·rw [orL_0 hy];exact ih
     ·rw [orL_1 hy];exact hy
   exact last [a5R a.Source b.Source,I4 (a3q a) (a3q b),I4 a.Start b.Start,I4 a.First b.First,I4 a.Rate.Num b.Rate.Num,I4 a.Rate.Den b.Rate.Den,I4 a.Error b.Error,I4 a.Run b.Run,I4 a.Seq b.Seq] _ hne h0
  unfold a3c
  rw [if_neg (by simp),rlex_eq a b hl h6];rfl
theorem a8t {a b:Record} (ha:RSm a) (hb:RSm b) (h6:a.Samples.length≤1000000):a0X a b=some (I7 a b):=by
 have hj:a1g a b (a3q a)=some (I7 a b):=by
  unfold a1g
  rw [a1j hb.src hb.len]
  simp only [Option.bind]
  have e:=b4C (b:=b) ha h6
  by_cases hv:a5m b=true
  ·have hr:=R5.1 hv
   have eb:a3q b=o5 b 0:=by unfold a3q;rw [if_pos hv]
   rw [hv,hr.reftime (Int.le_refl 0) (by omega),← eb]
   exact e
  ·have eb:a3q b=0:=by unfold a3q;rw [if_neg hv]
   rw [if_neg hv,← eb]
   exact e
 unfold a0X
 rw [a1j ha.src ha.len]
 simp only [Option.bind]
 by_cases hv:a5m a=true
 ·have hr:=R5.1 hv
  have ea:a3q a=o5 a 0:=by unfold a3q;rw [if_pos hv]
  rw [hv,hr.reftime (Int.le_refl 0) (by omega),← ea]
  exact hj
 ·have ea:a3q a=0:=by unfold a3q;rw [if_neg hv]
  rw [if_neg hv,← ea]
  exact hj
theorem b5N {r:Record} (h:RF r) {a b:Nat} (hab:a<b) (hb:b≤r.Samples.length):a7k r a b=some (a7q r a b,0):=by
 have l1:=h.l1
 have f0:=h.f0
 have f1:=h.f1
 unfold a7k
 rw [h.refvalid]
 simp only [Option.bind,Bool.not_true,Bool.false_eq_true,if_false]
 have hc:(((decide ((a:Int)<0)) || (decide ((b:Int)≤(a:Int)))) || (decide ((r.Samples.length:Int)<(b:Int))))=false:=by simp;omega
 rw [hc,a4N _ _ _ (by omega) hb]
 simp only [Bool.false_eq_true,if_false]
 rw [E5 _ _ _ (by simp;omega) (by decide),y8 (by omega) (by omega)]
 rfl
end Go.Proofs.YtdcafiefjakfeaaGreat.Sh
namespace Go.Proofs.YtdcafiefjakfeaaGreat.Sh
open Go
set_option linter.unusedVariables false
set_option linter.unusedSimpArgs false
theorem rfine_ok {l:List Record} (h:VL l) (hl:l.length≤1000):a4M l=some true:=by
 unfold a4M
 refine D9 (fun i=>(i:Int)) l.length _ rfl (fun i hi=>?_) ?_
 ·have hm:=List.getElem_mem hi
  have h0:0<l.length:=by omega
  unfold a2e
  rw [if_pos (decide_eq_true (by omega)),w9 _ _ hi]
  simp only [Option.bind_some]
  rw [(h.rf _ hm).refvalid]
  simp only [Option.bind_some,Bool.not_true,Bool.false_eq_true,if_false]
  rw [show ix l 0=some l[0] from w9 l 0 h0]
  simp only [Option.bind_some]
  rw [h.src _ hm _ (List.getElem_mem h0)]
  simp only [b5B,Bool.and_self,Bool.not_true,Bool.false_eq_true,if_false]
  rw [G7 (by omega)]
 ·unfold a2e
  rw [if_neg (by simp)]
  rfl
theorem b0S {l:List Record} (h:VL l) (hl:l.length≤256):a0K l=some true:=by
 unfold a0K
 rw [if_pos (decide_eq_true (by omega)),rfine_ok h (by omega)]
 rfl
theorem natpred {k:Nat} (h:0<k):(k:Int) - 1=((k - 1:Nat):Int):=by omega
open Classical in
theorem b2n {l:List Record} (h:∀ r∈l,RSm r∧r.Samples.length≤1000000) (hl:l.length≤1000):a2F l=some (K6 I7 l):=by
 unfold a2F
 have hw:l9 (a4m l) (([]:List Record),0)=some (K6 I7 l):=by
  refine D9 (fun i=>(K6 I7 (l.take i),(i:Int))) l.length _ (by simp [K6]) (fun i hi=>?_) ?_
  ·have hsl:=a0T I7 (l.take i)
   rw [List.length_take] at hsl
   have hom:∀ r∈K6 I7 (l.take i),RSm r∧r.Samples.length≤1000000:=fun r hr=>h r (List.mem_of_mem_take (a0n.1 hr))
   have hxm:=h _ (List.getElem_mem hi)
   obtain ⟨o,ho⟩:∃ o,K6 I7 (l.take i)=o:=⟨_,rfl⟩
   obtain ⟨x,hx⟩:∃ x,l[i]=x:=⟨_,rfl⟩
   have hpw:=a3l P9 (fun _ _=>a1v) (l.take i)
   rw [G6 hi,b3e P9 (fun _ _=>a1v),hx]
   rw [ho] at hsl hpw hom ⊢
   rw [hx] at hxm
   unfold a4m
   simp only
   rw [if_pos (decide_eq_true (by omega))]
   simp only [Option.bind_some]
   obtain ⟨k,ek,k1,k2,k3⟩:=b6g (c:=I7) (body:=a4n l (o,(i:Int))) o x (by omega) (fun k hk=>by
    unfold a4n
    simp only
    rw [if_pos (decide_eq_true (by omega)),y8 (by omega) (by omega),show ((k+1:Nat):Int) - 1=(k:Int) by omega,w9 _ _ hk,w9 _ _ hi,hx]
    simp only [Option.bind_some]
    have hk':=hom _ (List.getElem_mem hk)
    rw [a8t hk'.1 hxm.1 hk'.2]
    simp only [Option.bind_some]
    by_cases hc:0<I7 o[k] x
    ·rw [if_pos (decide_eq_true hc),if_pos hc]
    ·rw [if_neg (by simpa using hc),if_neg hc]) (by
    unfold a4n
    simp)
   rw [ek]
   simp only [Option.bind_some]
   obtain ⟨q1,q2⟩:=b3t P9 (fun _ _=>a1v) (x:=x) hpw k1 k2 k3
   clear k2 k3
   have hcond:(if decide ((0:Int)<(k:Int))=true then (ix o (w64 ((k:Int) - 1))).bind fun x1255=>(ix l (i:Int)).bind fun x1272=>(a0X x1255 x1272).bind fun rv1288=>some (rv1288 == 0) else some false)=some (decide (0<k∧o[k - 1]? = some x)):=by
    by_cases hk0:0<k
    ·have hkl:k - 1<o.length:=by omega
     have hk':=hom _ (List.getElem_mem hkl)
     rw [if_pos (decide_eq_true (by omega)),y8 (by omega) (by omega),natpred hk0,w9 _ _ hkl,w9 _ _ hi,hx]
     simp only [Option.bind_some]
     rw [a8t hk'.1 hxm.1 hk'.2]
     simp only [Option.bind_some,Option.some.injEq]
     rw [Bool.eq_iff_iff,beq_iff_eq,decide_eq_true_iff,a0S hkl,Option.some.injEq]
     exact ⟨fun h=>⟨hk0,a1v h⟩,fun h=>by rw [h.2];exact P9.refl x⟩
    ·rw [if_neg (by simp;omega)]
     have:¬ (0<k∧o[k - 1]? = some x):=fun h=>hk0 h.1
     rw [decide_eq_false this]
   have hbody:∀ c:Bool,(c=true→a8c I7 x o=o)→(c=false→a8c I7 x o=o.take k ++ x :: o.drop k)→(if c=true then X9 (o,(i:Int)) o else (ix l (i:Int)).bind fun x1339=>(U8 144 o ([x1339]:List Record)).bind fun l1357=>(a0e l1357 (w64 ((k:Int)+1)) (l1357.length:Int)).bind fun l1365=>(a0e l1357 (k:Int) (l1357.length:Int)).bind fun l1370=>(some (O0 l1357 (w64 ((k:Int)+1)) (l1357.length:Int) l1370)).bind fun l1371=>(ix l (i:Int)).bind fun x1381=>(ix l1371 (k:Int)).bind fun x1393=>(a3X l1371 (k:Int) x1381).bind fun l1409=>X9 (o,(i:Int)) l1409)=some (Sum.inl (a8c I7 x o,((i+1:Nat):Int))):=by
    intro c c1 c2
    unfold X9
    simp only
    rw [y8 (x:=(i:Int)+1) (by omega) (by omega)]
    cases c with
    | true=>
     rw [if_pos rfl,c1 rfl]
     rfl
    | false=>
     rw [if_neg (by decide),w9 _ _ hi,hx]
     simp only [Option.bind_some]
     rw [E5 _ _ _ (by simp;omega) (by decide),y8 (x:=(k:Int)+1) (by omega) (by omega)]
     simp only [Option.bind_some]
     obtain ⟨g1,g2,q,eq,hq,hset⟩:=b5b (s:=o) (x:=x) k1 (by omega)
     have ek1:(k:Int)+1=((k+1:Nat):Int):=by omega
     rw [ek1,g1]
     simp only [Option.bind_some]
     rw [g2]
     simp only [Option.bind_some]
     rw [← eq,w9 _ _ hq]
     simp only [Option.bind_some]
     rw [a5H _ _ _ (by omega) (by omega),Int.toNat_natCast,hset,c2 rfl]
     rfl
   refine Eq.trans ?_ (hbody (decide (0<k∧o[k - 1]? = some x)) (fun h=>?_) (fun h=>?_))
   ·exact congrArg (fun z:Option Bool=>z.bind fun c1289=>(if c1289=true then X9 (o,(i:Int)) o else (ix l (i:Int)).bind fun x1339=>(U8 144 o ([x1339]:List Record)).bind fun l1357=>(a0e l1357 (w64 ((k:Int)+1)) (l1357.length:Int)).bind fun l1365=>(a0e l1357 (k:Int) (l1357.length:Int)).bind fun l1370=>(some (O0 l1357 (w64 ((k:Int)+1)) (l1357.length:Int) l1370)).bind fun l1371=>(ix l (i:Int)).bind fun x1381=>(ix l1371 (k:Int)).bind fun x1393=>(a3X l1371 (k:Int) x1381).bind fun l1409=>X9 (o,(i:Int)) l1409)) hcond
   ·have h:=of_decide_eq_true h
    obtain ⟨hkl,e⟩:=a7w h.2
    exact q1 ⟨hkl,h.1,e⟩
   ·have h:=of_decide_eq_false h
    refine q2 ?_
    by_cases hk0:k=0
    ·exact .inl hk0
    ·have hkl:k - 1<o.length:=by omega
     exact .inr ⟨hkl,by omega,fun e=>h ⟨by omega,by rw [a0S hkl,e]⟩⟩
  ·unfold a4m
   simp only
   rw [if_neg (by simp),List.take_length]
 rw [hw]
 rfl
theorem b2Z {l:List Record} (h:VL l) (hl:l.length≤1000):a2F l=some (K6 I7 l):=b2n (fun r hr=>⟨(h.rf r hr).sm,by have:=(h.rf r hr).l1;omega⟩) hl
theorem b0F {l:List Record} (h:VS15 l):a2E l=some (K6 I7 l,0):=by
 have hl:=h.len
 unfold a2E
 rw [b0S h.toVL (by omega)]
 simp only [Option.bind_some,Bool.not_true,Bool.false_eq_true,if_false]
 rw [b2Z h.toVL (by omega)]
 rfl
end Go.Proofs.YtdcafiefjakfeaaGreat.Sh
namespace Go.Proofs.YtdcafiefjakfeaaGreat.Sh
open Go
set_option linter.unusedVariables false
set_option linter.unusedSimpArgs false
theorem b4D {l:List Record} (h:VS15 l):∃ r,a5g l=some (r,0)∧NS (l.map a6m) r:=by
 have hl:=h.len
 unfold a5g
 rw [b0S h.toVL (by omega)]
 simp only [Option.bind_some,Bool.not_true,Bool.false_eq_true,if_false]
 have hw:l9 (a3h l) (([]:List Span),0)=some (l.map a6m):=by
  refine D9 (fun i=>((l.take i).map a6m,(i:Int))) l.length _ (by simp) (fun i hi=>?_) ?_
  ·unfold a3h
   simp only
   rw [if_pos (decide_eq_true (by omega)),w9 _ _ hi]
   simp only [Option.bind_some]
   rw [(h.rf _ (List.getElem_mem hi)).refSpan]
   simp only [Option.bind_some]
   rw [E5 _ _ _ (by simp;omega) (by decide)]
   simp only [Option.bind_some]
   rw [G7 (by omega),G6 hi]
   simp only [List.map_append,List.map_cons,List.map_nil]
   rfl
  ·unfold a3h
   simp only
   rw [if_neg (by simp),List.take_length]
 rw [hw]
 simp only [Option.bind_some]
 obtain ⟨r,er,hr⟩:=a1Q (l:=l.map a6m) (by simp;omega)
 rw [er]
 exact ⟨r,rfl,hr⟩
end Go.Proofs.YtdcafiefjakfeaaGreat.Sh
namespace Go.Proofs.YtdcafiefjakfeaaGreat.Sh
open Go
set_option linter.unusedVariables false
set_option linter.unusedSimpArgs false
theorem minus6 {p q o:List Span} {i:Int} {x:Span} (hx:ix p i=some x):a6d p q (o,i)=a2g q x:=by
 funext s
 unfold a6d a2g a4j a3A a4i a3z
 simp only [hx,Option.bind_some]
 cases hk:ix q s.2.2 with
 | none=>rfl
 | some y=>
  simp only [Option.bind_some]
  by_cases h1:y.To≤s.2.1
  ·simp [h1]
  ·by_cases h2:x.To≤y.From
   ·simp [h1,h2]
   ·simp [h1,h2]
theorem minus3 (p q:List Span):a6c p q=a2f q p:=by
 funext s
 unfold a6c a2f a4k a3B
 cases hk:ix p s.2 with
 | none=>rfl
 | some x=>
  simp only [Option.bind_some]
  have e:s=(s.1,s.2):=rfl
  rw [e,minus6 hk]
theorem b4J {a b:List Span} (ha:a.length≤100) (hb:b.length≤100):∃ r,a6D a b=some r∧LS a b r:=by
 unfold a6D
 obtain ⟨p,ep,hp⟩:=a1Q (l:=a) (by omega)
 obtain ⟨q,eq,hq⟩:=a1Q (l:=b) (by omega)
 have l1:=hp.len
 have l2:=hq.len
 rw [ep,eq]
 simp only [Option.bind_some]
 obtain ⟨r,er,hr⟩:=b1X hp.vs hq.vs (by omega) (by omega)
 rw [minus3,er]
 refine ⟨r,rfl,hr.vs,fun z=>by rw [hr.mem,hp.mem,hq.mem],?_,fun lo hi ea eb=>hr.eb lo hi (hp.eb ea) (hq.eb eb)⟩
 have h1:=hr.len
 have h2:=Nat.mul_le_mul l1 (Nat.add_le_add_right l2 1)
 omega
end Go.Proofs.YtdcafiefjakfeaaGreat.Sh
namespace Go.Proofs.YtdcafiefjakfeaaGreat.Sh
open Go
set_option linter.unusedVariables false
set_option linter.unusedSimpArgs false
open Classical
theorem b5P (a b:SourceID):((a.Network == b.Network) && ((a.Station == b.Station) && ((a.Location == b.Location) && ((a.Channel == b.Channel) && true))))=decide (a=b):=by
 cases a;cases b
 simp only [b4W,SourceID.mk.injEq,Bool.and_true]
 rw [Bool.eq_iff_iff]
 simp only [Bool.and_eq_true,decide_eq_true_eq]
noncomputable def okR (s:SourceID) (r:Record):Bool:=a5m r && decide (r.Source=s)
noncomputable def allv (l:List Record):Bool:=l.all (okR (l.headD rec0).Source)
theorem ix0 {l:List Record} (h:0<l.length):ix l 0=some (l.headD rec0):=by
 cases l with
 | nil=>simp at h
 | cons a l=>rfl
theorem b5W {l:List Record} (h:∀ r∈l,RSm r) {r:Record} (hr:r∈l):P7 r l=some (!(okR (l.headD rec0).Source r)):=by
 unfold P7 okR
 rw [a1W (h r hr).src (h r hr).len,ix0 (List.length_pos_of_mem hr)]
 simp only [Option.bind_some]
 rw [b5P]
 cases a5m r <;> simp
theorem b6j {l:List Record} {f:Record→Option Bool} {p:Record→Bool} (hf:∀ r∈l,f r=some (p r)) (hl:l.length≤1000000):F9 l f=some (l.any p):=by
 unfold F9 J3
 obtain ⟨k,ek,hk⟩:=a2z (body:=D5 l f) (fun (_:Unit) i=>i) l.length (fun i _=>∀ j (h:j<l.length),j<i→p l[j]=false) (fun k=>decide (0≤k)=l.any p) (fun i hi a hI=>by
  unfold D5
  rw [if_pos (decide_eq_true (by omega)),w9 _ _ hi]
  simp only [Option.bind_some]
  rw [hf _ (List.getElem_mem hi)]
  simp only [Option.bind_some]
  cases hp:p l[i] with
  | true=>
   right
   refine ⟨_,rfl,?_⟩
   rw [decide_eq_true (by omega)]
   exact (List.any_eq_true.2 ⟨_,List.getElem_mem hi,hp⟩).symm
  | false=>
   left
   simp only [Bool.false_eq_true,if_false]
   rw [G7 (by omega)]
   refine ⟨(),rfl,fun j hj hji=>?_⟩
   by_cases e:j=i
   ·subst e;exact hp
   ·exact hI j hj (by omega)) (fun a hI=>by
  unfold D5
  rw [if_neg (by simp)]
  refine ⟨_,rfl,?_⟩
  rw [decide_eq_false (by omega)]
  symm
  rw [List.any_eq_false]
  intro r hr
  obtain ⟨j,hj,rfl⟩:=List.mem_iff_getElem.1 hr
  rw [hI j hj hj];decide) () (fun j _ h=>by omega)
 rw [ek]
 simp only [Option.bind_some]
 rw [hk]
theorem alike_eq {l:List Record} (h:∀ r∈l,RSm r) (hl:l.length≤1000000):a2b l=some (allv l):=by
 unfold a2b
 rw [b6j (fun r hr=>b5W h hr) hl]
 simp only [Option.bind_some]
 unfold allv
 rw [List.any_eq_not_all_not]
 simp
theorem rfine_eq {l:List Record} (h:∀ r∈l,RSm r) (hl:l.length≤1000000):a4M l=some (allv l):=by
 unfold a4M
 obtain ⟨k,ek,hk⟩:=a2z (body:=a2e l) (fun (_:Unit) i=>i) l.length (fun i _=>∀ j (h:j<l.length),j<i→okR (l.headD rec0).Source l[j]=true) (fun k=>k=allv l) (fun i hi a hI=>by
  unfold a2e
  have hr:=h _ (List.getElem_mem hi)
  rw [if_pos (decide_eq_true (by omega)),w9 _ _ hi,ix0 (by omega)]
  simp only [Option.bind_some]
  rw [a1j hr.src hr.len]
  simp only [Option.bind_some]
  rw [b5P]
  have e:(if (!(a5m l[i]))=true then some true else some (!(decide (l[i].Source=(l.headD rec0).Source))))=some (!(okR (l.headD rec0).Source l[i])):=by
   unfold okR
   cases a5m l[i] <;> simp
  rw [e]
  simp only [Option.bind_some]
  cases hp:okR (l.headD rec0).Source l[i] with
  | true=>
   left
   simp only [Bool.not_true,Bool.false_eq_true,if_false]
   rw [G7 (by omega)]
   refine ⟨(),rfl,fun j hj hji=>?_⟩
   by_cases e:j=i
   ·subst e;exact hp
   ·exact hI j hj (by omega)
  | false=>
   right
   simp only [Bool.not_false,if_true]
   refine ⟨_,rfl,?_⟩
   symm
   unfold allv
   rw [List.all_eq_false]
   exact ⟨_,List.getElem_mem hi,by rw [hp];decide⟩) (fun a hI=>by
  unfold a2e
  rw [if_neg (by simp)]
  refine ⟨_,rfl,?_⟩
  symm
  unfold allv
  rw [List.all_eq_true]
  intro r hr
  obtain ⟨j,hj,rfl⟩:=List.mem_iff_getElem.1 hr
  exact hI j hj hj) () (fun j _ h=>by omega)
 rw [ek,hk]
theorem allv_vl {l:List Record}:allv l=true↔VL l:=by
 unfold allv
 rw [List.all_eq_true]
 constructor
 ·intro h
  have h2:∀ r∈l,RF r∧r.Source=(l.headD rec0).Source:=fun r hr=>by
   have:=h r hr
   unfold okR at this
   simp only [Bool.and_eq_true,decide_eq_true_eq] at this
   exact ⟨R5.1 this.1,this.2⟩
  exact ⟨fun r hr=>(h2 r hr).1,fun r hr q hq=>(h2 r hr).2.trans (h2 q hq).2.symm⟩
 ·intro h r hr
  unfold okR
  rw [R5.2 (h.rf r hr)]
  simp only [Bool.true_and,decide_eq_true_eq]
  cases l with
  | nil=>cases hr
  | cons a l=>exact h.src r hr a List.mem_cons_self
noncomputable def a2n (l:List Record):Bool:=decide (l.length≤256) && allv l
theorem b0w {l:List Record} (h:∀ r∈l,RSm r) (hl:l.length≤1000000):V6 l=some (a2n l):=by
 unfold V6 a2n
 rw [alike_eq h hl]
 by_cases h:l.length≤256
 ·rw [if_pos (decide_eq_true (by omega)),decide_eq_true h];rfl
 ·rw [if_neg (by simp;omega),decide_eq_false h];rfl
theorem b0R {l:List Record} (h:∀ r∈l,RSm r) (hl:l.length≤1000000):a0K l=some (a2n l):=by
 unfold a0K a2n
 rw [rfine_eq h hl]
 by_cases h:l.length≤256
 ·rw [if_pos (decide_eq_true (by omega)),decide_eq_true h];rfl
 ·rw [if_neg (by simp;omega),decide_eq_false h];rfl
theorem b0V {l:List Record} (h:a2n l=true) (hl:l.length≤100) (hs:∀ r∈l,r.Samples.length≤1000):VS15 l:=by
 unfold a2n at h
 simp only [Bool.and_eq_true] at h
 exact ⟨allv_vl.1 h.2,hl,hs⟩
end Go.Proofs.YtdcafiefjakfeaaGreat.Sh
namespace Go.Proofs.YtdcafiefjakfeaaGreat.Sh
open Go
set_option linter.unusedVariables false
set_option linter.unusedSimpArgs false
def aP (p:Int × Int):Arr2 Int:=⟨p.1,p.2⟩
theorem rat_in {A:List Record} {i:Nat} (hi:i<A.length) (hR:RF A[i]) {t:Int} {k:Nat} (hk:b1R A[i] t=some k) (out o:List (Arr2 Int)) (ol:out.length≤100000) :
  l9 (a6J A t (o,(i:Int))) (out,0)=some (out ++ [aP (o5 A[i] (k:Int),A[i].Samples.getD k 0)]):=by
 obtain ⟨r,hr⟩:∃ r,A[i]=r:=⟨_,rfl⟩
 rw [hr] at hR hk ⊢
 obtain ⟨k1,k2,k3⟩:=b0z hk
 have l1:=hR.l1
 refine D9 (fun j=>((if k<j then out ++ [aP (o5 r (k:Int),r.Samples.getD k 0)] else out),(j:Int))) r.Samples.length _ (by simp) (fun j hj=>?_) ?_
 ·unfold a6J
  simp only
  rw [w9 _ _ hi,hr]
  simp only [Option.bind_some]
  rw [if_pos (decide_eq_true (by omega)),hR.reftime (by omega) (by omega)]
  simp only [Option.bind_some]
  rw [y8 (x:=(j:Int)+1) (by omega) (by omega),hR.reftime (by omega) (by omega)]
  simp only [Option.bind_some]
  unfold a6H
  simp only [Option.bind_some]
  rw [G7 (by omega)]
  have hc:(if decide (o5 r (j:Int)≤t)=true then some (decide (t<o5 r ((j:Int)+1))) else some false)=some (decide (j=k)):=by
   by_cases e:j=k
   ·subst e
    rw [if_pos (decide_eq_true k2),decide_eq_true k3,decide_eq_true rfl]
   ·rw [decide_eq_false e]
    by_cases h1:o5 r (j:Int)≤t
    ·rw [if_pos (decide_eq_true h1),decide_eq_false]
     intro h2
     have a:=hR.at_lt h1 k3
     have b:=hR.at_lt k2 h2
     omega
    ·rw [if_neg (by simpa using h1)]
  rw [hc]
  simp only [Option.bind_some]
  by_cases e:j=k
  ·subst e
   rw [if_pos (decide_eq_true rfl),w9 _ _ hj]
   simp only [Option.bind_some]
   rw [if_neg (by omega),if_pos (by omega),E5 _ _ _ (by simp;omega) (by decide)]
   simp only [Option.bind_some]
   have:r.Samples.getD j 0=r.Samples[j]:=by simp [List.getD_eq_getElem?_getD,hj]
   rw [this]
   rfl
  ·rw [if_neg (by simpa using e)]
   by_cases h1:k<j
   ·rw [if_pos h1,if_pos (by omega)]
   ·rw [if_neg h1,if_neg (by omega)]
 ·unfold a6J
  simp only
  rw [w9 _ _ hi,hr]
  simp only [Option.bind_some]
  rw [if_neg (by simp),if_pos k1]
theorem b5i {A:List Record} (hr:∀ r∈A,RF r) (hl:A.length≤1000) (t:Int):a8A A t=some ((hits A t).map aP):=by
 unfold a8A
 have:l9 (a6I A t) (([]:List (Arr2 Int)),0)=some ((hits A t).map aP):=by
  refine D9 (fun i=>((hits (A.take i) t).map aP,(i:Int))) A.length _ (by simp [hits]) (fun i hi=>?_) ?_
  ·have hR:=hr _ (List.getElem_mem hi)
   have hlen:=a9Q (A.take i) t
   rw [List.length_take] at hlen
   unfold a6I
   simp only
   rw [if_pos (decide_eq_true (by omega)),w9 _ _ hi]
   simp only [Option.bind_some]
   rw [hR.refSpan,b0y hi]
   simp only [Option.bind_some]
   unfold a6G
   simp only [Option.bind_some]
   rw [G7 (by omega)]
   by_cases hin:o5 A[i] 0≤t∧t<o5 A[i] A[i].Samples.length
   ·obtain ⟨k,hk⟩:=b5J hR hin.1 hin.2
    rw [if_neg (by simp;omega),rat_in hi hR hk _ _ (by rw [List.length_map];omega)]
    simp only [Option.bind_some]
    unfold a5U
    rw [hk]
    simp
   ·rw [if_pos (by simp;omega)]
    unfold a5U
    rw [a7b hR hin]
    simp
  ·unfold a6I
   simp only
   rw [if_neg (by simp),List.take_length]
 rw [this]
 rfl
theorem b6b {l:List Record} (h:∀ r∈l,RSm r) (hl:l.length≤100) (hs:∀ r∈l,r.Samples.length≤1000):a0U l=some (if a2n l=true then (K6 I7 l,0) else ([],1)):=by
 cases hv:a2n l with
 | true=>rw [if_pos rfl];exact a9H (b0V hv hl hs)
 | false=>
  unfold a0U
  rw [b0w h (by omega),hv]
  rfl
theorem b6u {l:List Record} (h:∀ r∈l,RSm r) (hl:l.length≤100) (hs:∀ r∈l,r.Samples.length≤1000):a2E l=some (if a2n l=true then (K6 I7 l,0) else ([],1)):=by
 cases hv:a2n l with
 | true=>rw [if_pos rfl];exact b0F (b0V hv hl hs)
 | false=>
  unfold a2E
  rw [b0R h (by omega),hv]
  rfl
structure SmL (l:List Record):Prop where
 rs:∀ r∈l,RSm r
 len:l.length≤30
 sm:∀ r∈l,r.Samples.length≤30
theorem SmL.vs {l:List Record} (h:SmL l) (hv:a2n l=true):VS15 l:=b0V hv (by have:=h.len;omega) fun r hr=>by have:=h.sm r hr;omega
theorem depth2 {l:List Record} (h:SmL l) (t:Int):∃ v,U9 l t=some v∧a3V l t=some v:=by
 have hl:=h.len
 cases hv:a2n l with
 | true=>
  have hV:=h.vs hv
  refine ⟨_,depth_ok hV t,?_⟩
  unfold a3V
  rw [b0F hV]
  simp only [Option.bind_some,bne_self_eq_false,Bool.false_eq_true,if_false]
  rw [b5i (fun r hr=>hV.rf r (a0n.1 hr)) (by have:=a0T I7 l;omega)]
  simp only [Option.bind_some,List.length_map]
 | false=>
  have e1:=b6b h.rs (by omega) (fun r hr=>by have:=h.sm r hr;omega)
  have e2:=b6u h.rs (by omega) (fun r hr=>by have:=h.sm r hr;omega)
  rw [hv,if_neg (by decide)] at e1 e2
  refine ⟨0,?_,?_⟩
  ·unfold U9
   rw [e1]
   simp only [Option.bind_some]
   rw [G8]
   unfold a0f
   simp
  ·unfold a3V
   rw [e2]
   rfl
noncomputable def chk (l:List Record) (f t:Int):Int:=if a2n l=true then (if 0≤f∧f≤t∧t≤9007199254740992 then 0 else 2) else 1
theorem b1P (f t:Int):Y2 f t=some (decide (0≤f∧f≤t∧t≤9007199254740992)):=by
 unfold Y2
 by_cases h1:0≤f <;> by_cases h2:f≤t <;> by_cases h3:t≤9007199254740992 <;> simp [h1,h2,h3]
theorem b2r (f t:Int):((decide (f<0)) || (decide (t<f)) || (decide (9007199254740992<t)))=!(decide (0≤f∧f≤t∧t≤9007199254740992)):=by
 rw [Bool.eq_iff_iff]
 simp
 omega
theorem b4g {l:List Record} (h:SmL l) (f t:Int):V3 l f t=some (chk l f t):=by
 unfold V3 chk
 rw [b0w h.rs (by have:=h.len;omega)]
 simp only [Option.bind_some]
 cases a2n l with
 | false=>rfl
 | true=>
  rw [b1P]
  simp only [Option.bind_some,Bool.not_true,Bool.false_eq_true,if_false,if_true]
  by_cases hw:0≤f∧f≤t∧t≤9007199254740992
  ·rw [decide_eq_true hw,if_pos hw];rfl
  ·rw [decide_eq_false hw,if_neg hw];rfl
theorem b2Y {l:List Record} (h:SmL l) (f t:Int):a4r l f t=some (chk l f t):=by
 unfold a4r chk
 rw [b0R h.rs (by have:=h.len;omega)]
 simp only [Option.bind_some]
 cases a2n l with
 | false=>rfl
 | true=>
  rw [b2r]
  simp only [Bool.not_true,Bool.false_eq_true,if_false,if_true]
  by_cases hw:0≤f∧f≤t∧t≤9007199254740992
  ·rw [decide_eq_true hw,if_pos hw];rfl
  ·rw [decide_eq_false hw,if_neg hw];rfl
theorem b4i {l:List Record} {f t:Int} (h:chk l f t=0):a2n l=true∧0≤f∧f≤t∧t≤9007199254740992:=by
 unfold chk at h
 cases hv:a2n l with
 | false=>rw [hv] at h;simp at h
 | true=>
  rw [hv,if_pos rfl] at h
  by_cases hw:0≤f∧f≤t∧t≤9007199254740992
  ·exact ⟨rfl,hw⟩
  ·rw [if_neg hw] at h;exact absurd h (by decide)
theorem gaps2 {l:List Record} (h:SmL l) (f t:Int):∃ g e,Y9 l f t=some (g,e)∧a7S l f t=some (g,e)∧g.length≤1000:=by
 unfold Y9 a7S
 rw [b4g h,b2Y h]
 simp only [Option.bind_some]
 by_cases hc:chk l f t=0
 ·have hV:=h.vs (b4i hc).1
  have hl:=h.len
  rw [hc]
  simp only [bne_self_eq_false,Bool.false_eq_true,if_false]
  obtain ⟨r,er,hr⟩:=b1O hV
  obtain ⟨s,es,hs⟩:=b4D hV
  have:s=r:=hs.uniq hr
  subst this
  have rl:=hr.len
  rw [List.length_map] at rl
  rw [er,es]
  simp only [Option.bind_some]
  obtain ⟨x,ex,hx⟩:=b1Y (a:=[⟨f,t⟩]) (b:=s) (by simp) (by omega)
  obtain ⟨y,ey,hy⟩:=b4J (a:=[⟨f,t⟩]) (b:=s) (by simp) (by omega)
  have:y=x:=hy.vs.uniq hx.vs fun z=>by rw [hy.mem,hx.mem]
  subst this
  rw [ex,ey]
  have:=hx.len
  simp at this
  exact ⟨_,_,rfl,rfl,by omega⟩
 ·rw [if_pos (by simpa using hc),if_pos (by simpa using hc)]
  exact ⟨_,_,rfl,rfl,by simp⟩
end Go.Proofs.YtdcafiefjakfeaaGreat.Sh
namespace Go.Proofs.YtdcafiefjakfeaaGreat.Sh
open Go
set_option linter.unusedVariables false
set_option linter.unusedSimpArgs false
section
variable {α:Type}
theorem b4t {s:List α} {x z:α} {e:Nat} (he:e≤s.length) (hl:s.length≤100000) :
  a0e (s ++ [z]) ((e+1:Nat):Int) ((s ++ [z]).length:Int)=some (s.drop (e+1) ++ [z].drop (e+1 - s.length))∧a0e (s ++ [z]) (e:Int) ((s ++ [z]).length:Int)=some (s.drop e ++ [z]) ∧
  ∃ q,q=O0 (s ++ [z]) ((e+1:Nat):Int) ((s ++ [z]).length:Int) (s.drop e ++ [z])∧e<q.length∧q.set e x=s.take e ++ x :: s.drop e:=by
 have hlen:(s ++ [z]).length=s.length+1:=by simp
 refine ⟨?_,?_,_,rfl,?_,?_⟩
 ·rw [a4N _ _ _ (by omega) (Nat.le_refl _),List.take_of_length_le (Nat.le_refl _),List.drop_append]
 ·rw [a4N _ _ _ (by omega) (Nat.le_refl _),List.take_of_length_le (Nat.le_refl _),List.drop_append_of_le_length he]
 ·unfold O0
  simp only [Int.toNat_natCast,List.length_append,List.length_take,List.length_drop,List.length_cons,List.length_nil]
  omega
 ·unfold O0
  simp only [Int.toNat_natCast]
  have e1:(s.drop e ++ [z]).take ((s ++ [z]).length - (e+1))=s.drop e:=by
   rw [hlen,List.take_append_of_le_length (by rw [List.length_drop];omega),List.take_of_length_le (by rw [List.length_drop];omega)]
  have e2:(s ++ [z]).drop (e+1+min (s.drop e ++ [z]).length ((s ++ [z]).length - (e+1)))=[]:=by
   apply List.drop_eq_nil_of_le
   simp only [List.length_append,List.length_drop,List.length_cons,List.length_nil]
   omega
  rw [e1,e2,List.append_nil]
  have e3:(s ++ [z]).take (e+1)=s.take e ++ [(s ++ [z])[e]'(by omega)]:=by
   rw [G6 (by omega),List.take_append_of_le_length he]
  rw [e3,List.append_assoc,List.set_append,if_neg (by rw [List.length_take];omega)]
  have:e - (s.take e).length=0:=by rw [List.length_take];omega
  rw [this]
  rfl
end
theorem b6v (o:List Int) (x:Int) (hl:o.length≤1000000):∃ k:Nat,l9 (a4p o x) 0=some (k:Int)∧k≤o.length∧(∀ j (h:j<o.length),j<k→o[j]<x)∧(∀ h:k<o.length,¬ o[k]<x):=by
 obtain ⟨r,er,k,rfl,k1,k2,k3⟩:=a2z (body:=a4p o x) (fun (_:Unit) i=>i) o.length (fun i _=>∀ j (h:j<o.length),j<i→o[j]<x) (fun r=>∃ k:Nat,r=(k:Int)∧k≤o.length∧(∀ j (h:j<o.length),j<k→o[j]<x)∧(∀ h:k<o.length,¬ o[k]<x)) (fun i hi a hI=>by
  unfold a4p
  rw [if_pos (decide_eq_true (by omega)),w9 _ _ hi]
  simp only [Option.bind_some]
  by_cases hc:o[i]<x
  ·left
   rw [if_pos (decide_eq_true hc),G7 (by omega)]
   refine ⟨(),rfl,fun j hj hji=>?_⟩
   by_cases e:j=i
   ·subst e;exact hc
   ·exact hI j hj (by omega)
  ·right
   rw [if_neg (by simpa using hc)]
   exact ⟨_,rfl,i,rfl,by omega,hI,fun _=>hc⟩) (fun a hI=>by
  unfold a4p
  rw [if_neg (by simp)]
  simp only [Option.bind_some,Bool.false_eq_true,if_false]
  exact ⟨_,rfl,o.length,rfl,Nat.le_refl _,hI,fun h=>by omega⟩) () (fun j _ h=>by omega)
 exact ⟨k,er,k1,k2,k3⟩
theorem radd_ok {o:List Int} {x:Int} (hp:o.Pairwise (fun a b=>I4 a b<0)) (hl:o.length≤100000):a8N o x=some (a8c I4 x o):=by
 obtain ⟨k,ek,k1,k2,k3⟩:=b6v o x (by omega)
 have hpp:=List.pairwise_iff_getElem.1 hp
 unfold a8N
 rw [ek]
 simp only [Option.bind_some]
 by_cases he:∃ h:k<o.length,o[k]=x
 ·obtain ⟨h,e⟩:=he
  rw [if_pos (decide_eq_true (by omega)),w9 _ _ h]
  simp only [Option.bind_some]
  rw [if_pos (by simp [e])]
  have:=(b3t (k:=k+1) M3 (fun _ _=>Y1) (x:=x) hp (by omega) (fun j hj hkj=>by
   have h1:=a9J.1 (hpp k j h hj (by omega))
   unfold I4
   rw [if_neg (by omega),if_pos (by omega)]
   decide) (.inr ⟨by omega,by omega,by
   simp only [Nat.add_sub_cancel]
   rw [e,M3.refl];exact Int.le_refl _⟩)).1 ⟨by simp only [Nat.add_sub_cancel];exact h,by omega,by simp only [Nat.add_sub_cancel];exact e⟩
  rw [this]
 ·have hc:(if decide ((k:Int)<(o.length:Int))=true then (ix o (k:Int)).bind fun x165=>some (x165 == x) else some false)=some false:=by
   by_cases h:k<o.length
   ·rw [if_pos (decide_eq_true (by omega)),w9 _ _ h]
    simp only [Option.bind_some,Option.some.injEq]
    rw [beq_eq_false_iff_ne]
    exact fun e=>he ⟨h,e⟩
   ·rw [if_neg (by simp;omega)]
  rw [hc]
  simp only [Option.bind_some,Bool.false_eq_true,if_false]
  rw [E5 _ _ _ (by simp;omega) (by decide)]
  simp only [Option.bind_some]
  have hins:=(b3t (k:=k) M3 (fun _ _=>Y1) (x:=x) hp k1 (fun j hj hkj=>by
   have h1:¬ o[k]'(by omega)<x:=k3 (by omega)
   have h2:o[k]'(by omega)≠x:=fun e=>he ⟨by omega,e⟩
   have h3:o[k]'(by omega)≤o[j]:=by
    by_cases e:k=j
    ·subst e;omega
    ·have:=a9J.1 (hpp k j (by omega) hj (by omega));omega
   unfold I4
   rw [if_neg (by omega),if_pos (by omega)]
   decide) (by
   by_cases h0:k=0
   ·exact .inl h0
   ·refine .inr ⟨by omega,by omega,?_⟩
    have:=k2 (k - 1) (by omega) (by omega)
    exact Int.le_of_lt (a9J.2 this))).2 (by
   by_cases h0:k=0
   ·exact .inl h0
   ·refine .inr ⟨by omega,by omega,?_⟩
    have:=k2 (k - 1) (by omega) (by omega)
    omega)
  rw [hins]
  obtain ⟨g1,g2,q,eq,hq,hset⟩:=b4t (s:=o) (x:=x) (z:=0) k1 (by omega)
  have ek1:w64 ((k:Int)+1)=((k+1:Nat):Int):=G7 (by omega)
  rw [ek1,g1]
  simp only [Option.bind_some]
  rw [g2]
  simp only [Option.bind_some]
  rw [← eq,w9 _ _ hq]
  simp only [Option.bind_some]
  rw [a5H _ _ _ (by omega) (by omega),Int.toNat_natCast,hset]
  rfl
theorem b6l (r:Record) (f t:Int) (n:Nat):a7d r f t (n+1)=a7d r f t n ++ (if f<o5 r (n:Int)∧o5 r (n:Int)<t then [o5 r (n:Int)] else []):=by
 unfold a7d
 rw [a8I,List.filter_append]
 congr 1
 by_cases h1:f<o5 r (n:Int) <;> by_cases h2:o5 r (n:Int)<t <;> simp [h1,h2]
theorem rcut_in {A:List Record} {i:Nat} (hi:i<A.length) (hR:RF A[i]) (hs:A[i].Samples.length≤1000) {f t:Int} (base o:List Int) (ho:base.length≤50000) (e:Int) (o2:List Int) :
  l9 (R7 f t (A,e) (o2,(i:Int))) (K6 I4 base,0)=some (K6 I4 (base ++ a7d A[i] f t (A[i].Samples.length+1))):=by
 obtain ⟨r,hr⟩:∃ r,A[i]=r:=⟨_,rfl⟩
 rw [hr] at hR hs ⊢
 refine D9 (fun j=>(K6 I4 (base ++ a7d r f t j),(j:Int))) (r.Samples.length+1) _ (by simp [a7d,a1p]) (fun j hj=>?_) ?_
 ·have hlen:=a0T I4 (base ++ a7d r f t j)
  have h2:=a9S r f t j
  rw [List.length_append] at hlen
  unfold R7
  simp only
  rw [w9 _ _ hi,hr]
  simp only [Option.bind_some]
  rw [if_pos (decide_eq_true (by omega)),hR.reftime (by omega) (by omega)]
  simp only [Option.bind_some]
  unfold a0L
  simp only [Option.bind_some]
  rw [G7 (by omega),b6l]
  by_cases hc:f<o5 r (j:Int)∧o5 r (j:Int)<t
  ·rw [if_pos (by simp [hc.1,hc.2]),if_pos hc,radd_ok (a3l M3 (fun _ _=>Y1) _) (by omega),← List.append_assoc,b3e M3 (fun _ _=>Y1)]
   rfl
  ·rw [if_neg (by simpa using hc),if_neg hc,List.append_nil]
 ·unfold R7
  simp only
  rw [w9 _ _ hi,hr]
  simp only [Option.bind_some]
  rw [if_neg (by simp;omega)]
theorem rcuts_ok {A:List Record} (hr:∀ r∈A,RF r) (hk:∀ r∈A,r.Samples.length≤1000) (hl:A.length≤40) {f t:Int} (ft:f<t) (e:Int) :
  l9 (R6 f t (A,e)) ([f,t],0)=some (K6 I4 (a1T A f t)):=by
 refine D9 (fun i=>(K6 I4 ([f,t] ++ (A.take i).flatMap fun r=>a7d r f t (r.Samples.length+1)),(i:Int))) A.length _ ?_ (fun i hi=>?_) ?_
 ·simp only [List.take_zero,List.flatMap_nil,List.append_nil]
  rw [b0U M3 (fun _ _=>Y1) (by simp [a9J,ft])]
  rfl
 ·have hb:([f,t] ++ (A.take i).flatMap fun r=>a7d r f t (r.Samples.length+1)).length≤50000:=by
   have h1:=a0D (fun r:Record=>a7d r f t (r.Samples.length+1)) 1001 (A.take i) fun r hr'=>by
    have:=a9S r f t (r.Samples.length+1)
    have:=hk r (List.mem_of_mem_take hr')
    omega
   have h2:=Nat.mul_le_mul_left 1001 (show (A.take i).length≤40 by rw [List.length_take];omega)
   have h3:([f,t]:List Int).length=2:=rfl
   rw [List.length_append,h3]
   omega
  unfold R6
  simp only
  rw [if_pos (decide_eq_true (by omega)),rcut_in hi (hr _ (List.getElem_mem hi)) (hk _ (List.getElem_mem hi)) _ [] hb]
  simp only [Option.bind_some]
  rw [G7 (by omega),G6 hi,List.flatMap_append,List.flatMap_singleton,List.append_assoc]
 ·unfold R6
  simp only
  rw [if_neg (by simp),List.take_length]
  rfl
theorem b5l {A:List Record} (hr:∀ r∈A,RF r) (hk:∀ r∈A,r.Samples.length≤1000) (hl:A.length≤40) (f:Int) (e:Int) :
  l9 (R6 f f (A,e)) ([f,f],0)=some [f,f]:=by
 refine D9 (fun i=>([f,f],(i:Int))) A.length _ rfl (fun i hi=>?_) ?_
 ·have hR:=hr _ (List.getElem_mem hi)
  have hs:=hk _ (List.getElem_mem hi)
  have hin:l9 (R7 f f (A,e) ([f,f],(i:Int))) ([f,f],0)=some [f,f]:=by
   refine D9 (fun j=>([f,f],(j:Int))) (A[i].Samples.length+1) _ rfl (fun j hj=>?_) ?_
   ·unfold R7
    simp only
    rw [w9 _ _ hi]
    simp only [Option.bind_some]
    rw [if_pos (decide_eq_true (by omega)),hR.reftime (by omega) (by omega)]
    simp only [Option.bind_some]
    rw [if_neg (by simp;omega)]
    unfold a0L
    simp only [Option.bind_some]
    rw [G7 (by omega)]
   ·unfold R7
    simp only
    rw [w9 _ _ hi]
    simp only [Option.bind_some]
    rw [if_neg (by simp;omega)]
  unfold R6
  simp only
  rw [if_pos (decide_eq_true (by omega)),hin]
  simp only [Option.bind_some]
  rw [G7 (by omega)]
 ·unfold R6
  simp only
  rw [if_neg (by simp)]
theorem b5p {H:List (Int × Int)} (h2:2≤H.length) (hl:H.length≤1000):l9 (a1O (H.map aP)) (true,1)=some (allEq H):=by
 obtain ⟨p,T,rfl⟩:∃ p T,H=p :: T:=by
  cases H with
  | nil=>simp at h2
  | cons p T=>exact ⟨p,T,rfl⟩
 have key:∀ i,i≤T.length→allEq ((p :: T).take (i+1))=(T.take i).all (fun q=>decide (q=p)):=by
  intro i
  induction i with
  | zero=>intro _;simp [allEq]
  | succ i ih=>
   intro hi
   rw [show (p :: T).take (i+1+1)=(p :: T).take (i+1) ++ [T[i]'(by omega)] by
    rw [List.take_succ_cons,List.take_succ_cons,List.cons_append,← G6 (xs:=T) (i:=i) (by omega)],b1J,ih (by omega),G6 (xs:=T) (i:=i) (by omega),List.all_append]
   simp
 refine Eq.trans (D9 (s:=(true,1)) (fun i=>(allEq ((p :: T).take (i+1)),((i+1:Nat):Int))) T.length (allEq ((p :: T).take (T.length+1))) (by simp [allEq]) (fun i hi=>?_) ?_) (by simp)
 ·unfold a1O
  simp only
  have e0:ix ((p :: T).map aP) 0=some (aP p):=rfl
  rw [if_pos (by simp;omega),w9 _ _ (show i+1<((p :: T).map aP).length by simpa using hi),e0]
  simp only [Option.bind_some,List.map_cons,List.getElem_cons_succ,List.getElem_map]
  have hl':T.length+1≤1000:=by simpa using hl
  rw [G7 (by omega),key (i+1) (by omega),key i (by omega),G6 hi,List.all_append]
  cases (T.take i).all (fun q=>decide (q=p)) with
  | false=>simp
  | true=>
   simp only [if_true,Option.bind_some,Bool.true_and,List.all_cons,List.all_nil,Bool.and_true,Option.some.injEq,Sum.inl.injEq,Prod.mk.injEq,and_true]
   unfold aP
   rw [Bool.eq_iff_iff]
   simp only [Bool.and_eq_true,beq_iff_eq,decide_eq_true_eq,Prod.ext_iff]
 ·unfold a1O
  simp only
  rw [if_neg (by simp)]
theorem ovloop2 {A:List Record} (hr:∀ r∈A,RF r) (hl:A.length≤1000) {B:List Int} (hB:B.Pairwise (fun a b=>a<b)) (hBl:B.length≤100000) :
  ∃ o,l9 (G9 (A,0) B) (([]:List Overlap),0)=some o∧l9 (N8 (A,0) B) (([]:List Overlap),0)=some o∧o.length≤B.length:=by
 have hp:=List.pairwise_iff_getElem.1 hB
 obtain ⟨r,q,e1,e2,rfl,h3⟩:=sim (b1:=G9 (A,0) B) (b2:=N8 (A,0) B)
  (fun n (s t:List Overlap × Int)=>s=t∧∃ i:Nat,s.2=(i:Int)∧n+i=B.length∧s.1.length≤i) (fun r q=>r=q∧r.length≤B.length) (fun n s t ⟨hst,i,hi,hn,hs⟩=>by
   subst hst
   obtain ⟨a,j⟩:=s
   simp only at hi hs
   subst hi
   unfold G9 N8
   simp only
   rw [G7 (n:=i) (by omega)]
   by_cases hlt:i+1<B.length
   ·left
    have hb:B[i]<B[i+1]:=hp i (i+1) (by omega) hlt (by omega)
    have hs:a.length≤i:=hs
    rw [if_pos (decide_eq_true (by omega)),if_pos (decide_eq_true (by omega)),w9 B i (by omega),w9 B (i+1) hlt]
    simp only [Option.bind_some]
    rw [look_ok hr hl,b5i hr hl]
    simp only [Option.bind_some,List.length_map]
    obtain ⟨H,hH⟩:∃ H,hits A B[i]=H:=⟨_,rfl⟩
    have hHl:H.length≤1000:=by rw [← hH];have:=a9Q A B[i];omega
    rw [hH]
    unfold R3 Q9 a2u a0M
    simp only [Option.bind_some]
    rw [G7 (n:=i) (by omega)]
    have hnl:(n - 1)+(i+1)=B.length:=by omega
    by_cases hd:H.length<2
    ·rw [if_pos (decide_eq_true (by omega)),if_pos (decide_eq_true (by omega))]
     simp only [Option.bind_some,if_true]
     exact ⟨(a,((i+1:Nat):Int)),(a,((i+1:Nat):Int)),n - 1,rfl,rfl,⟨rfl,i+1,rfl,hnl,Nat.le_succ_of_le hs⟩,by omega⟩
    ·have hd1:decide ((H.length:Int)<2)=false:=decide_eq_false (by omega)
     have hd2:decide (B[i+1]≤B[i])=false:=decide_eq_false (by omega)
     simp only [hd1,hd2,Option.bind_some,Bool.false_eq_true,if_false]
     rw [b5p (by omega) hHl]
     simp only [Option.bind_some]
     obtain ⟨e,he⟩:∃ e,allEq H=e:=⟨_,rfl⟩
     rw [he]
     have hsnoc:a=[]∨∃ o x,a=o ++ [x]:=by
      rcases List.eq_nil_or_concat a with h | ⟨o,x,h⟩
      ·exact .inl h
      ·exact .inr ⟨o,x,by rw [h,List.concat_eq_append]⟩
     rcases hsnoc with rfl | ⟨o,x,rfl⟩
     ·have hz:decide ((0:Int)<((([]:List Overlap).length:Nat):Int))=false:=rfl
      simp only [hz,Option.bind_some,Bool.false_eq_true,if_false]
      rw [E5 _ _ _ (by simp) (by decide)]
      exact ⟨_,_,n - 1,rfl,rfl,⟨rfl,i+1,rfl,hnl,by simp⟩,by omega⟩
     ·have hol:(o ++ [x]).length=o.length+1:=by simp
      rw [hol] at hs
      have hpos:decide ((0:Int)<((o.length+1:Nat):Int))=true:=decide_eq_true (by omega)
      rw [hol,hpos,show w64 (((o.length+1:Nat):Int) - 1)=(o.length:Int) by rw [y8 (by omega) (by omega)];omega,a8K]
      simp only [Option.bind_some,if_true]
      have happ:U8 24 (o ++ [x]) ([(⟨B[i],B[i+1],e⟩:Overlap)]:List Overlap)=some (o ++ [x] ++ [⟨B[i],B[i+1],e⟩]):=E5 _ _ _ (by simp;omega) (by decide)
      have hset:a3X (o ++ [x]) (o.length:Int) (⟨x.From,B[i+1],x.Same⟩:Overlap)=some (o ++ [⟨x.From,B[i+1],x.Same⟩]):=a5N _ _ _
      rw [happ,hset]
      simp only [Option.bind_some]
      cases x.To == B[i] <;> cases x.Same == e <;> simp only [if_true,if_false,Bool.false_eq_true,Option.bind_some]
      all_goals first
       | exact ⟨_,_,n - 1,rfl,rfl,⟨rfl,i+1,rfl,hnl,by simp;omega⟩,by omega⟩
   ·right
    rw [if_neg (by simp;omega),if_neg (by simp;omega)]
    exact ⟨_,_,rfl,rfl,rfl,by omega⟩) B.length ([],0) ([],0) ⟨rfl,0,rfl,by omega,by simp⟩
 exact ⟨r,e1,e2,h3⟩
theorem b6r {l:List Record} (h:SmL l) (f t:Int):∃ o e,P6 l f t=some (o,e)∧a4o l f t=some (o,e)∧o.length≤4096:=by
 unfold P6 a4o
 rw [b4g h,b2Y h]
 simp only [Option.bind_some]
 by_cases hc:chk l f t=0
 case neg=>
  rw [if_pos (by simpa using hc),if_pos (by simpa using hc)]
  exact ⟨_,_,rfl,rfl,by simp⟩
 obtain ⟨z0,z1,z2,z3⟩:=b4i hc
 have hV:=h.vs z0
 have hl:=h.len
 rw [hc]
 simp only [bne_self_eq_false,Bool.false_eq_true,if_false]
 rw [a9H hV,b0F hV]
 simp only [Option.bind_some]
 obtain ⟨A,hA⟩:∃ A,K6 I7 l=A:=⟨_,rfl⟩
 have hAl:A.length≤l.length:=by rw [← hA];exact a0T _ _
 have hAm:∀ r∈A,r∈l:=fun r hr=>a0n.1 (hA ▸ hr)
 have hAr:∀ r∈A,RF r:=fun r hr=>hV.rf r (hAm r hr)
 have hAs:∀ r∈A,r.Samples.length≤1000:=fun r hr=>by have:=h.sm r (hAm r hr);omega
 rw [hA,b1K hAr hAs (by omega)]
 simp only [Option.bind_some]
 have hBd:=b5C A f t
 have hBl:(K6 I4 (a1T A f t)).length≤2+(30+1) * 30:=by
  have e1:=a0T I4 (a1T A f t)
  have e2:=a9I (A:=A) (f:=f) (t:=t) (k:=30) fun r hr=>h.sm r (hAm r hr)
  have:=Nat.mul_le_mul_left 31 (show A.length≤30 by omega)
  omega
 by_cases hft:f=t
 ·subst hft
  rw [b5l hAr hAs (by omega)]
  simp only [Option.bind_some]
  have hB1:(K6 I4 (a1T A f f)).length=1:=by
   have p:=hBd.pos
   have e1:=hBd.first (Int.le_refl f)
   have e2:=hBd.last (Int.le_refl f)
   rcases Nat.lt_or_ge 1 (K6 I4 (a1T A f f)).length with k | k
   ·have:=hBd.mono (i:=0) (j:=(K6 I4 (a1T A f f)).length - 1) (by omega) (by omega) (by omega)
    omega
   ·omega
  have w1:l9 (G9 (A,0) (K6 I4 (a1T A f f))) (([]:List Overlap),0)=some []:=by
   rw [G8]
   have:G9 (A,0) (K6 I4 (a1T A f f)) (([]:List Overlap),0)=some (.inr []):=by
    unfold G9
    simp only
    rw [hB1,if_neg (by decide)]
   rw [this]
   rfl
  have w2:l9 (N8 (A,0) [f,f]) (([]:List Overlap),0)=some []:=by
   have s1:N8 (A,0) [f,f] (([]:List Overlap),0)=some (.inl ([],1)):=by
    unfold N8
    simp only
    rw [show w64 (0+1)=1 by decide,show ([f,f].length:Int)=2 from rfl,if_pos (by decide),show ix [f,f] 0=some f from rfl,show ix [f,f] 1=some f from rfl]
    simp only [Option.bind_some]
    rw [b5i hAr (by omega)]
    simp only [Option.bind_some,Int.le_refl,decide_true]
    have:(if decide ((((hits A f).map aP).length:Int)<2)=true then some true else some true)=some true:=by split <;> rfl
    rw [this]
    simp only [Option.bind_some,if_true]
    unfold a0M
    simp only [Option.bind_some]
    rw [show w64 (0+1)=1 by decide]
   have s2:N8 (A,0) [f,f] (([]:List Overlap),1)=some (.inr []):=by
    unfold N8
    simp only
    rw [show w64 (1+1)=2 by decide,show ([f,f].length:Int)=2 from rfl,if_neg (by decide)]
   rw [G8,s1]
   simp only [Option.bind_some]
   rw [G8,s2]
   rfl
  rw [w1,w2]
  exact ⟨_,_,rfl,rfl,by simp⟩
 ·rw [rcuts_ok hAr hAs (by omega) (by omega)]
  simp only [Option.bind_some]
  obtain ⟨o,e1,e2,e3⟩:=ovloop2 hAr (by omega) hBd.asc (by omega)
  rw [e1,e2]
  simp only [Option.bind_some]
  rw [if_neg (by simp;omega)]
  exact ⟨_,_,rfl,rfl,by omega⟩
end Go.Proofs.YtdcafiefjakfeaaGreat.Sh
namespace Go.Proofs.YtdcafiefjakfeaaGreat.Sh
open Go
set_option linter.unusedVariables false
set_option linter.unusedSimpArgs false
def a6n (s:Segment) (i:Int):Int:=s.Start+(s.First+i) * (s.Rate.Den * 1000000) / s.Rate.Num
def b1m (n:Int):Int:=max n (-n)
def a4b (r:Record):Segment:=⟨r.Start,r.First,r.Rate,r.Error,r.Samples⟩
structure Bd where
 seg:Segment
 worst:Int
 off:Int
def a3u (b:Segment) (r:Record):Int:=b1m (o5 r 0 - a6n b b.Samples.length)
def fitS (tol:Int) (b:Segment) (r:Record):Prop:=r.Rate=b.Rate∧b.Samples≠[]∧a3u b r≤tol
open Classical in
noncomputable def b3f (tol:Int) (st:List Segment × Bd) (r:Record):List Segment × Bd:=
 if fitS tol st.2.seg r then
  (st.1.dropLast ++ [⟨st.2.seg.Start,st.2.seg.First,st.2.seg.Rate,min (max st.2.worst r.Error+max st.2.off (a3u st.2.seg r)) 1099511627776,st.2.seg.Samples ++ r.Samples⟩],
   ⟨⟨st.2.seg.Start,st.2.seg.First,st.2.seg.Rate,min (max st.2.worst r.Error+max st.2.off (a3u st.2.seg r)) 1099511627776,st.2.seg.Samples ++ r.Samples⟩,max st.2.worst r.Error,max st.2.off (a3u st.2.seg r)⟩)
 else (st.1 ++ [a4b r],⟨a4b r,r.Error,0⟩)
noncomputable def a4s (tol:Int) (m:List Record):List Segment × Bd:=m.foldl (b3f tol) ([],⟨⟨0,0,⟨0,0⟩,0,[]⟩,0,0⟩)
theorem b2s (tol:Int) (m:List Record) (r:Record):a4s tol (m ++ [r])=b3f tol (a4s tol m) r:=by unfold a4s;rw [List.foldl_append];rfl
theorem b1Q {a j d n:Int} (hn:1≤n):j * d / n≤(a+j) * d / n - a * d / n∧(a+j) * d / n - a * d / n≤j * d / n+1:=by
 have h1:=Int.mul_ediv_add_emod ((a+j) * d) n
 have h2:=Int.mul_ediv_add_emod (a * d) n
 have h3:=Int.mul_ediv_add_emod (j * d) n
 have b1:=Int.emod_nonneg ((a+j) * d) (show n≠0 by omega)
 have b2:=Int.emod_nonneg (a * d) (show n≠0 by omega)
 have b3:=Int.emod_nonneg (j * d) (show n≠0 by omega)
 have c1:=Int.emod_lt_of_pos ((a+j) * d) (show 0<n by omega)
 have c2:=Int.emod_lt_of_pos (a * d) (show 0<n by omega)
 have c3:=Int.emod_lt_of_pos (j * d) (show 0<n by omega)
 have e:(a+j) * d=a * d+j * d:=Int.add_mul ..
 obtain ⟨x,hx⟩:∃ x,(a+j) * d / n=x:=⟨_,rfl⟩
 obtain ⟨y,hy⟩:∃ y,a * d / n=y:=⟨_,rfl⟩
 obtain ⟨z,hz⟩:∃ z,j * d / n=z:=⟨_,rfl⟩
 rw [hx] at h1 ⊢
 rw [hy] at h2 ⊢
 rw [hz] at h3 ⊢
 have k:n * (x - y - z)=(a * d % n)+(j * d % n) - ((a+j) * d % n):=by
  rw [Int.mul_sub,Int.mul_sub];omega
 constructor
 ·by_cases h:z≤x - y
  ·exact h
  ·have:n * (x - y - z)≤n * (-1):=Int.mul_le_mul_of_nonneg_left (by omega) (by omega)
   omega
 ·by_cases h:x - y≤z+1
  ·exact h
  ·have:n * 2≤n * (x - y - z):=Int.mul_le_mul_of_nonneg_left (by omega) (by omega)
   omega
def b1Z (s:Segment):List (Int × Int):=(List.range s.Samples.length).map fun (j:Nat)=>(s.Samples.getD j 0,a6n s (j:Int))
def pairsR (r:Record):List (Int × Int):=(List.range r.Samples.length).map fun (j:Nat)=>(r.Samples.getD j 0,o5 r (j:Int))
def Near (tol:Int) (p q:Int × Int):Prop:=p.1=q.1∧q.2≤p.2+tol+1∧p.2≤q.2+tol+1
inductive AllNear (tol:Int):List (Int × Int)→List (Int × Int)→Prop
 | nil:AllNear tol [] []
 | cons {p q:Int × Int} {a b:List (Int × Int)}:Near tol p q→AllNear tol a b→AllNear tol (p :: a) (q :: b)
theorem AllNear.app {tol:Int} {a b c d:List (Int × Int)} (h:AllNear tol a b) (h':AllNear tol c d):AllNear tol (a ++ c) (b ++ d):=by
 induction h with
 | nil=>exact h'
 | cons h _ ih=>exact .cons h ih
theorem AllNear.map {tol:Int} {f g:Nat→Int × Int}:∀ {l:List Nat},(∀ j∈l,Near tol (f j) (g j))→AllNear tol (l.map f) (l.map g)
 | [],_=>.nil
 | a :: l,h=>.cons (h a List.mem_cons_self) (AllNear.map fun j hj=>h j (List.mem_cons_of_mem _ hj))
theorem AllNear.len {tol:Int} {a b:List (Int × Int)} (h:AllNear tol a b):a.length=b.length:=by
 induction h with
 | nil=>rfl
 | cons _ _ ih=>simp [ih]
theorem AllNear.at_ {tol:Int} {a b:List (Int × Int)} (h:AllNear tol a b):∀ (i:Nat) (hi:i<a.length) (hj:i<b.length),Near tol a[i] b[i]:=by
 induction h with
 | nil=>intro i hi;simp at hi
 | cons h _ ih=>
  intro i hi hj
  cases i with
  | zero=>exact h
  | succ i=>exact ih i (by simpa using hi) (by simpa using hj)
structure SB (r:Record):Prop where
 rf:RF r
 st:r.Start≤8000000000000000
 fi:r.First≤1000
def P8 (s:Segment):Record:=⟨⟨⟨#[78]⟩,⟨#[83]⟩,ByteArray.empty,⟨#[67,72,65]⟩⟩,s.Start,s.First,s.Rate,s.Error,0,0,s.Samples⟩
theorem a7A (s:Segment) (i:Int):o5 (P8 s) i=a6n s i:=rfl
theorem b6a:a6q (P8 (a4b ⟨⟨ByteArray.empty,ByteArray.empty,ByteArray.empty,ByteArray.empty⟩,0,0,⟨0,0⟩,0,0,0,[]⟩)).Source=true:=by decide
theorem segB {s:Segment} (l0:1≤s.Samples.length) (l1:s.Samples.length≤60000) (f0:0≤s.First) (f1:s.First≤1000) (e0:0≤s.Error) (e1:s.Error≤1099511627776) (rv:RV s.Rate) (s0:0≤s.Start) (s1:s.Start≤8000000000000000) (hs:a8E s.Samples=true):RF (P8 s):=by
 have hn:=rv.n0;have hd:=rv.d0;have hd1:=rv.d1
 have k1:(s.First+s.Samples.length) * (s.Rate.Den * 1000000)≤61000 * 4096000000:=Int.mul_le_mul (by omega) (by omega) (by omega) (by omega)
 have k0:0≤(s.First+s.Samples.length) * (s.Rate.Den * 1000000):=Int.mul_nonneg (by omega) (by omega)
 have k2:=Int.ediv_le_self s.Rate.Num k0
 exact ⟨b6a,l0,by show s.Samples.length≤_;omega,f0,by show s.First+(s.Samples.length:Int)≤_;omega,e0,e1,by show (0:Int)≤0;omega,by show (0:Int)≤65535;omega,by show (0:Int)≤0;omega,by show (0:Int)≤1073741824;omega,rv,s0,by show s.Start≤_;omega,by show s.Start+(s.First+s.Samples.length) * (s.Rate.Den * 1000000) / s.Rate.Num≤_;omega,hs⟩
def a7T (m:List Record):Nat:=(m.flatMap fun r=>r.Samples).length
theorem a8O (m:List Record) (r:Record):a7T (m ++ [r])=a7T m+r.Samples.length:=by simp [a7T]
def ApartS (tol:Int) (l:List Segment):Prop:=∀ i (h:i+1<l.length),l[i].Rate=l[i+1].Rate→tol<b1m (a6n l[i+1] 0 - a6n l[i] l[i].Samples.length)
structure SegI (tol:Int) (m:List Record) (st:List Segment × Bd):Prop where
 last:m≠[]→st.1≠[]∧st.1.getLast? = some st.2.seg
 nil:m=[]→st=([],⟨⟨0,0,⟨0,0⟩,0,[]⟩,0,0⟩)
 len:st.1.length≤m.length
 ok:∀ s∈st.1,RF (P8 s)∧s.Start≤8000000000000000∧s.First≤1000
 sm:st.2.seg.Samples.length≤a7T m
 w0:0≤st.2.worst
 w1:st.2.worst≤1099511627776
 o0:0≤st.2.off
 o1:st.2.off≤tol
 near:AllNear tol (st.1.flatMap b1Z) (m.flatMap pairsR)
 apart:ApartS tol st.1
theorem absI_nn (n:Int):0≤b1m n:=by unfold b1m;omega
theorem b3A (r:Record):b1Z (a4b r)=pairsR r:=rfl
theorem SegI.zero {tol:Int} (ht:0≤tol):SegI tol [] (a4s tol []):=
 ⟨fun h=>absurd rfl h,fun _=>rfl,Nat.le_refl _,fun s h=>(by cases h),Nat.le_refl _,Int.le_refl _,(by show (0:Int)≤_;decide),Int.le_refl _,ht,.nil,fun i h=>by simp [a4s] at h⟩
theorem b6q {tol:Int} (ht:0≤tol) (l:List (Int × Int)):AllNear tol l l:=by
 induction l with
 | nil=>exact .nil
 | cons a l ih=>exact .cons ⟨rfl,by omega,by omega⟩ ih
theorem b1W {α:Type} {l:List α} {x:α} (h:l.getLast? = some x):l=l.dropLast ++ [x]:=by
 have hne:l≠[]:=fun e=>by rw [e] at h;cases h
 have:=List.dropLast_concat_getLast hne
 rw [List.getLast?_eq_some_getLast hne,Option.some.injEq] at h
 rw [h] at this
 exact this.symm
theorem b2t {α:Type} {o:List α} {X:α} {k:Nat} (hk:k<o.length) (h:k<(o ++ [X]).length):(o ++ [X])[k]=o[k]:=List.getElem_append_left hk
theorem b5r {α:Type} {o:List α} {X:α} {k:Nat} (hk:k=o.length) (h:k<(o ++ [X]).length):(o ++ [X])[k]=X:=by
 subst hk
 rw [List.getElem_append_right (Nat.le_refl _)]
 simp
theorem SegI.step {tol:Int} (ht:0≤tol) {m:List Record} {st:List Segment × Bd} (h:SegI tol m st) {r:Record} (hr:SB r) (hn:a7T m+r.Samples.length≤60000):SegI tol (m ++ [r]) (b3f tol st r):=by
 have hR:=hr.rf
 have l0:=hR.l0;have e0:=hR.e0;have e1:=hR.e1
 have hne:m ++ [r]≠[]:=by simp
 obtain ⟨out,b⟩:=st
 unfold b3f
 by_cases hf:fitS tol b.seg r
 ·rw [if_pos hf]
  obtain ⟨f1,f2,f3⟩:=hf
  have hm:m≠[]:=fun e=>by
   have:=h.nil e
   injection this with _ h2
   rw [h2] at f2
   exact f2 rfl
  obtain ⟨g1,g2⟩:=h.last hm
  have hsp:=b1W g2
  obtain ⟨o,ho⟩:∃ o,out.dropLast=o:=⟨_,rfl⟩
  simp only at g1 g2 hsp f1 f2 f3
  rw [ho] at hsp
  simp only
  rw [ho]
  have hB:=h.ok b.seg (by rw [hsp];simp)
  have w0:=h.w0;have w1:=h.w1;have o0:=h.o0;have o1:=h.o1;have hsm:=h.sm
  simp only at w0 w1 o0 o1 hsm
  have ofn:=absI_nn (o5 r 0 - a6n b.seg b.seg.Samples.length)
  have hb0:1≤b.seg.Samples.length:=List.length_pos_iff.2 f2
  have bl:(b.seg.Samples ++ r.Samples).length=b.seg.Samples.length+r.Samples.length:=List.length_append
  obtain ⟨E,hE⟩:∃ E,min (max b.worst r.Error+max b.off (a3u b.seg r)) 1099511627776=E:=⟨_,rfl⟩
  have E0:0≤E∧E≤1099511627776:=by
   rw [← hE];unfold a3u at *;omega
  rw [hE]
  have hpair:b1Z ⟨b.seg.Start,b.seg.First,b.seg.Rate,E,b.seg.Samples ++ r.Samples⟩=b1Z b.seg ++ (List.range r.Samples.length).map fun (j:Nat)=>(r.Samples.getD j 0,a6n b.seg (((b.seg.Samples.length+j:Nat)):Int)):=by
   unfold b1Z
   simp only [bl,List.range_add,List.map_append,List.map_map]
   congr 1
   ·refine List.map_congr_left fun j hj=>?_
    have hj:j<b.seg.Samples.length:=by simpa using hj
    simp only [List.getD_eq_getElem?_getD,Prod.mk.injEq]
    rw [List.getElem?_append_left hj]
    exact ⟨rfl,rfl⟩
   ·refine List.map_congr_left fun j hj=>?_
    simp only [List.getD_eq_getElem?_getD,Prod.mk.injEq,Function.comp]
    rw [List.getElem?_append_right (by omega),show b.seg.Samples.length+j - b.seg.Samples.length=j by omega]
    exact ⟨rfl,rfl⟩
  refine ⟨fun _=>⟨by simp,by simp⟩,fun e=>absurd e hne,?_,?_,?_,?_,?_,?_,?_,?_,?_⟩
  ·have:=h.len
   simp only at this
   rw [hsp] at this
   simp at this ⊢
   omega
  ·intro s hs
   rcases List.mem_append.1 hs with hs | hs
   ·exact h.ok s (by simp only;rw [hsp];exact List.mem_append_left _ hs)
   ·rcases List.mem_singleton.1 hs with rfl
    have q:=hB.1
    refine ⟨segB (by simp only;omega) (by simp only;omega) q.f0 hB.2.2 E0.1 E0.2 q.rv q.s0 hB.2.1 ?_,hB.2.1,hB.2.2⟩
    have s1:a8E b.seg.Samples=true:=q.smp
    have s2:=hR.smp
    show a8E (b.seg.Samples ++ r.Samples)=true
    unfold a8E at *
    rw [List.all_append,s1,s2];rfl
  ·rw [a8O]
   simp only
   omega
  ·simp only;omega
  ·simp only;omega
  ·simp only;unfold a3u;omega
  ·simp only;omega
  ·have hnr:=h.near
   simp only at hnr
   rw [hsp] at hnr
   rw [List.flatMap_append,List.flatMap_singleton] at hnr ⊢
   rw [List.flatMap_append,List.flatMap_singleton,hpair,← List.append_assoc]
   refine hnr.app (AllNear.map fun j hj=>⟨rfl,?_⟩)
   simp only
   have d1:=b1Q (a:=r.First) (j:=(j:Int)) (d:=r.Rate.Den * 1000000) (n:=r.Rate.Num) hR.rv.n0
   have d2:=b1Q (a:=b.seg.First+b.seg.Samples.length) (j:=(j:Int)) (d:=r.Rate.Den * 1000000) (n:=r.Rate.Num) hR.rv.n0
   unfold a3u b1m at f3
   unfold o5 a6n at *
   rw [← f1] at f3 ⊢
   rw [Int.add_zero] at f3
   rw [show b.seg.First+((b.seg.Samples.length+j:Nat):Int)=b.seg.First+(b.seg.Samples.length:Int)+(j:Int) by omega]
   omega
  ·intro i hi hrt
   have ha:=h.apart
   simp only at ha
   have hlen:out.length=o.length+1:=by rw [hsp];simp
   have hl2:(o ++ [(⟨b.seg.Start,b.seg.First,b.seg.Rate,E,b.seg.Samples ++ r.Samples⟩:Segment)]).length=o.length+1:=by simp
   simp only at hi hrt ⊢
   rw [hl2] at hi
   obtain ⟨X,hX⟩:∃ X:Segment,(⟨b.seg.Start,b.seg.First,b.seg.Rate,E,b.seg.Samples ++ r.Samples⟩:Segment)=X:=⟨_,rfl⟩
   rw [hX] at hl2
   simp only [hX] at hi hrt ⊢
   have ha':ApartS tol (o ++ [b.seg]):=hsp ▸ ha
   have hi':i+1<(o ++ [b.seg]).length:=by simp;omega
   have hi:i+1<(o ++ [X]).length:=by omega
   have hai:=ha' i hi'
   rw [b2t (show i<o.length by omega) (by omega)] at hai hrt ⊢
   by_cases hc:i+1<o.length
   ·rw [b2t hc hi'] at hai
    rw [b2t hc hi] at hrt ⊢
    exact hai hrt
   ·rw [b5r (show i+1=o.length by omega) hi'] at hai
    rw [b5r (show i+1=o.length by omega) hi] at hrt ⊢
    subst hX
    exact hai hrt
 ·rw [if_neg hf]
  simp only
  refine ⟨fun _=>⟨by simp,by simp⟩,fun e=>absurd e hne,?_,?_,?_,?_,?_,?_,?_,?_,?_⟩
  ·have:=h.len
   simp only at this
   simp
   omega
  ·intro s hs
   rcases List.mem_append.1 hs with hs | hs
   ·exact h.ok s hs
   ·rcases List.mem_singleton.1 hs with rfl
    exact ⟨segB (by show 1≤r.Samples.length;omega) (by show r.Samples.length≤_;omega) hR.f0 hr.fi hR.e0 hR.e1 hR.rv hR.s0 hr.st hR.smp,hr.st,hr.fi⟩
  ·rw [a8O]
   show r.Samples.length≤_
   omega
  ·exact e0
  ·exact e1
  ·exact Int.le_refl _
  ·exact ht
  ·rw [List.flatMap_append,List.flatMap_append,List.flatMap_singleton,List.flatMap_singleton,b3A]
   exact h.near.app (b6q ht _)
  ·intro i hi hrt
   have ha:=h.apart
   simp only at ha hi hrt ⊢
   have hl2:(out ++ [a4b r]).length=out.length+1:=by simp
   obtain ⟨X,hX⟩:∃ X,a4b r=X:=⟨_,rfl⟩
   simp only [hX] at hi hrt hl2 ⊢
   have hi:i+1<(out ++ [X]).length:=by simpa using hi
   rw [b2t (show i<out.length by omega) (by omega)] at hrt ⊢
   by_cases hc:i+1<out.length
   ·rw [b2t hc hi] at hrt ⊢
    exact ha i hc hrt
   ·rw [b5r (show i+1=out.length by omega) hi] at hrt ⊢
    subst hX
    have hm:m≠[]:=fun e=>by
     have:=h.nil e
     injection this with h1 h2
     rw [h1] at hi
     simp at hi
    obtain ⟨g1,g2⟩:=h.last hm
    have e2:out[i]'(by omega)=b.seg:=by
     simp only at g2
     rw [List.getLast?_eq_getElem?,show out.length - 1=i by omega,List.getElem?_eq_getElem (by omega),Option.some.injEq] at g2
     exact g2
    rw [e2] at hrt ⊢
    have hbs:b.seg.Samples≠[]:=fun e=>by
     have q:=(h.ok b.seg (by rw [← e2];exact List.getElem_mem _)).1.l0
     rw [show (P8 b.seg).Samples=b.seg.Samples from rfl,e] at q
     simp at q
    have hno:¬ a3u b.seg r≤tol:=fun hh=>hf ⟨hrt.symm,hbs,hh⟩
    unfold a3u at hno
    have:a6n (a4b r) 0=o5 r 0:=rfl
    rw [this]
    omega
theorem segI {tol:Int} (ht:0≤tol) {m:List Record} (hm:∀ r∈m,SB r) (hn:a7T m≤60000):∀ i,i≤m.length→SegI tol (m.take i) (a4s tol (m.take i))
 | 0,_=>SegI.zero ht
 | i+1,hi=>by
  have ih:=segI ht hm hn i (by omega)
  rw [G6 (show i<m.length by omega),b2s]
  refine ih.step ht (hm _ (List.getElem_mem _)) ?_
  rw [← a8O,← G6 (show i<m.length by omega)]
  have:a7T m=a7T (m.take (i+1))+a7T (m.drop (i+1)):=by
   unfold a7T
   rw [← List.length_append,← List.flatMap_append,List.take_append_drop]
  omega
end Go.Proofs.YtdcafiefjakfeaaGreat.Sh
namespace Go.Proofs.YtdcafiefjakfeaaGreat.Sh
open Go
set_option linter.unusedVariables false
set_option linter.unusedSimpArgs false
theorem igrow {n:Int} (h0:0≤n) (h:n≤1000000):a0j n=some []:=by
 unfold a0j
 have e:w64 (n - w64 (((0:Nat):Int) - (([]:List Int).length:Int)))=n:=by
  have e0:w64 (((0:Nat):Int) - (([]:List Int).length:Int))=0:=by decide
  rw [e0,y8 (by omega) (by omega)];omega
 have hn:¬ n<0:=by omega
 simp only [e,hn,decide_false,Bool.false_eq_true,if_false,Option.bind]
 by_cases h1:0<n
 ·have e:a0e ([]:List Int) 0 ((0:Nat):Int)=some []:=by simp [a0e]
  simp only [h1,decide_true,if_true,e,b4v 8 (0:Int) n h0 (by omega) (by decide)]
  simp [a0e,U6,(show 0≤max n 0 by omega)]
 ·simp only [h1,decide_false,Bool.false_eq_true,if_false]
  rfl
theorem b5I (a b:List Int) (ha:a.length≤100000) (hb:b.length≤100000):a0i [a,b]=some (a ++ b):=by
 unfold a0i
 have w1:w64 1=1:=by decide
 have w2:w64 2=2:=by decide
 have wa:w64 (a.length:Int)=a.length:=y8 (by omega) (by omega)
 have wab:w64 ((a.length:Int)+b.length)=a.length+b.length:=y8 (by omega) (by omega)
 have na:¬ ((a.length:Int)<0):=by omega
 have nab:¬ ((a.length:Int)+b.length<0):=by omega
 have e1:l9 (O9 [a,b]) (0,0)=some ((a.length:Int)+b.length):=by
  rw [G8]
  simp only [O9,ix,Option.bind]
  simp [w1,wa,na]
  rw [G8]
  simp only [O9,ix,Option.bind]
  simp [w2,wab,nab]
  rw [G8]
  simp [O9]
 rw [e1]
 simp only [Option.bind]
 rw [igrow (by omega) (by omega)]
 simp only
 have e2:l9 (P5 [a,b]) ([],0)=some (a ++ b):=by
  rw [G8]
  simp only [P5,ix,Option.bind]
  simp [w1,E5 8 [] a (by simp;omega) (by decide)]
  rw [G8]
  simp only [P5,ix,Option.bind]
  simp [w2,E5 8 a b (by omega) (by decide)]
  rw [G8]
  simp [P5]
 rw [e2]
theorem a4f (a b:Rate):((a.Num == b.Num) && ((a.Den == b.Den) && true))=true↔a=b:=by
 cases a;cases b
 simp
theorem b5O {n:Int} (h0:-9223372036854775807≤n) (h1:n≤9223372036854775807):a3F n=some (b1m n):=by
 unfold a3F b1m
 rw [y8 (x:=0 - n) (by omega) (by omega),Int.zero_sub]
 rfl
theorem b6m {tol:Int} {b:Segment} {w o:Int} {r:Record} (hr:SB r) (h:b.Samples≠[]→RF (P8 b)∧b.Start≤8000000000000000∧b.First≤1000) (hn:b.Samples.length+r.Samples.length≤60000)
  (w0:0≤w) (w1:w≤1099511627776) (o0:0≤o) (o1:o≤9007199254740992) :
  (fitS tol b r∧H9 ⟨b,w,o⟩ r tol=some (⟨⟨b.Start,b.First,b.Rate,min (max w r.Error+max o (a3u b r)) 1099511627776,b.Samples ++ r.Samples⟩,max w r.Error,max o (a3u b r)⟩,true)) ∨
  (¬ fitS tol b r∧∃ x,H9 ⟨b,w,o⟩ r tol=some (x,false)):=by
 have hR:=hr.rf
 unfold H9
 simp only
 by_cases h1:r.Rate=b.Rate∧b.Samples≠[]
 case neg=>
  right
  refine ⟨fun hf=>h1 ⟨hf.1,hf.2.1⟩,⟨b,w,o⟩,?_⟩
  rw [if_pos]
  by_cases h2:r.Rate=b.Rate
  ·have h3:b.Samples=[]:=Classical.byContradiction fun h3=>h1 ⟨h2,h3⟩
   rw [h3]
   simp
  ·have:((r.Rate.Num == b.Rate.Num) && ((r.Rate.Den == b.Rate.Den) && true))=false:=by
    rw [Bool.eq_false_iff]
    exact fun h=>h2 ((a4f _ _).1 h)
   rw [this];rfl
 obtain ⟨h2,h3⟩:=h1
 obtain ⟨hB,hs,hf⟩:=h h3
 have hl:=hB.tb (i:=(b.Samples.length:Int)) (by omega) (by show (b.Samples.length:Int)≤b.Samples.length;omega)
 have hrt:=hR.tb (i:=0) (by omega) (by omega)
 have f0:0≤b.First:=hB.f0
 rw [if_neg (by
  rw [(a4f _ _).2 h2]
  have:(b.Samples.length:Int)≠0:=fun e=>h3 (List.eq_nil_of_length_eq_zero (by omega))
  simpa using h3),y8 (x:=b.First+(b.Samples.length:Int)) (by omega) (by omega),a1N]
 have ht:=hB.timeV (i:=(b.Samples.length:Int)) (by omega) (by show (b.Samples.length:Int)≤b.Samples.length;omega)
 rw [a7A] at ht hl
 rw [show timeV b.Start b.Rate (b.First+(b.Samples.length:Int))=(a6n b (b.Samples.length:Int),0) from ht,b1L hR (Int.le_refl 0) (by omega)]
 simp only [Option.bind_some]
 rw [y8 (x:=o5 r 0 - a6n b b.Samples.length) (by omega) (by omega),b5O (by omega) (by omega)]
 simp only [Option.bind_some]
 have eo:b1m (o5 r 0 - a6n b b.Samples.length)=a3u b r:=rfl
 rw [eo]
 have ob:0≤a3u b r∧a3u b r≤9007199254740992:=by
  unfold a3u b1m;omega
 by_cases h4:tol<a3u b r
 ·right
  rw [if_pos (decide_eq_true h4)]
  exact ⟨fun hh=>by have:=hh.2.2;omega,_,rfl⟩
 left
 rw [if_neg (by simpa using h4),b5I _ _ (by omega) (by omega)]
 simp only [Option.bind_some]
 have e0:=hR.e0;have e1:=hR.e1
 rw [y8 (x:=max w r.Error+max o (a3u b r)) (by omega) (by omega)]
 refine ⟨⟨h2,h3,by omega⟩,?_⟩
 have hv:RF (P8 ⟨b.Start,b.First,b.Rate,min (max w r.Error+max o (a3u b r)) 1099511627776,b.Samples ++ r.Samples⟩):=by
  have bl:(b.Samples ++ r.Samples).length=b.Samples.length+r.Samples.length:=List.length_append
  have b1:1≤b.Samples.length:=hB.l0
  refine segB (by simp only;omega) (by simp only;omega) hB.f0 hf (by simp only;omega) (by simp only;omega) hB.rv hB.s0 hs ?_
  have s1:a8E b.Samples=true:=hB.smp
  have s2:=hR.smp
  show a8E (b.Samples ++ r.Samples)=true
  unfold a8E at *
  rw [List.all_append,s1,s2];rfl
 unfold L6 U0
 simp only [Option.bind_some]
 have:=hv.valid
 unfold P8 at this
 rw [this]
 rfl
theorem b4L {l m:List Record} {tol:Int} (hc:a0z l=some (m,0)) (hm:∀ r∈m,SB r) (hn:a7T m≤60000) (hl:m.length≤100000) (t0:0≤tol) (t1:tol≤1000000) :
  M8 l tol=some ((a4s tol m).1,0):=by
 unfold M8
 rw [hc]
 simp only [Option.bind_some,bne_self_eq_false,Bool.false_eq_true,if_false]
 have:a4Q tol 0 1000000=some true:=by
  have:inB tol 0 1000000=true:=V7.2 ⟨t0,t1⟩
  show some (inB tol 0 1000000)=_
  rw [this]
 rw [this]
 simp only [Option.bind_some,Bool.not_true,Bool.false_eq_true,if_false]
 have hw:l9 (M4 tol (m,0)) (0,0,0,0,0,([]:List Int),0,0,([]:List Segment),0)=some (a4s tol m).1:=by
  refine D9 (fun i=>((a4s tol (m.take i)).2.seg.Start,(a4s tol (m.take i)).2.seg.First,(a4s tol (m.take i)).2.seg.Rate.Num,(a4s tol (m.take i)).2.seg.Rate.Den,(a4s tol (m.take i)).2.seg.Error,(a4s tol (m.take i)).2.seg.Samples,(a4s tol (m.take i)).2.worst,(a4s tol (m.take i)).2.off,(a4s tol (m.take i)).1,(i:Int))) m.length _ rfl (fun i hi=>?_) ?_
  ·have hI:=segI t0 hm hn i (by omega)
   have hr:=hm _ (List.getElem_mem hi)
   rw [G6 hi,b2s]
   obtain ⟨st,hst⟩:∃ st,a4s tol (m.take i)=st:=⟨_,rfl⟩
   obtain ⟨r,hre⟩:∃ r,m[i]=r:=⟨_,rfl⟩
   have hsum:a7T (m.take i)+r.Samples.length≤60000:=by
    rw [← hre,← a8O,← G6 hi]
    have:a7T m=a7T (m.take (i+1))+a7T (m.drop (i+1)):=by
     unfold a7T
     rw [← List.length_append,← List.flatMap_append,List.take_append_drop]
    omega
   rw [hst] at hI ⊢
   rw [hre] at hr ⊢
   obtain ⟨out,b⟩:=st
   have hlen:=hI.len
   have hsm:=hI.sm
   simp only [List.length_take] at hlen hsm
   have lst:b.seg.Samples≠[]→out≠[]∧out.getLast? = some b.seg:=fun hb=>by
    refine hI.last fun e=>hb ?_
    have:=hI.nil e
    injection this with _ h2
    rw [h2]
   unfold M4
   simp only
   rw [if_pos (decide_eq_true (by omega)),w9 _ _ hi,hre]
   simp only [Option.bind_some]
   have eta:(⟨(⟨b.seg.Start,b.seg.First,(⟨b.seg.Rate.Num,b.seg.Rate.Den⟩:Rate),b.seg.Error,b.seg.Samples⟩:Segment),b.worst,b.off⟩:Continuity_builder)=⟨b.seg,b.worst,b.off⟩:=rfl
   rw [eta]
   have w0:=hI.w0;have w1:=hI.w1;have o0:=hI.o0;have o1:=hI.o1
   simp only at w0 w1 o0 o1
   rcases b6m (tol:=tol) (b:=b.seg) (w:=b.worst) (o:=b.off) (r:=r) hr (fun hb=>hI.ok b.seg (List.mem_of_getLast? (lst hb).2)) (by omega) w0 w1 o0 (by omega) with ⟨hf,e⟩ | ⟨hf,x,e⟩
   ·rw [e]
    simp only [Option.bind_some,if_true]
    obtain ⟨q1,q2⟩:=lst hf.2.1
    have hsp:=b1W q2
    have hd:out.length=out.dropLast.length+1:=by
     conv=>lhs;rw [hsp]
     simp
    have hix:w64 ((out.length:Int) - 1)=(out.dropLast.length:Int):=by rw [y8 (by omega) (by omega)];omega
    rw [hix]
    have i1:ix out (out.dropLast.length:Int)=some b.seg:=by
     conv=>lhs;arg 1;rw [hsp]
     exact a8K _ _
    rw [i1]
    simp only [Option.bind_some]
    have i2:∀ t',a3X out (out.dropLast.length:Int) t'=some (out.dropLast ++ [t']):=fun t'=>by
     conv=>lhs;arg 1;rw [hsp]
     exact a5N _ _ _
    rw [i2]
    simp only [Option.bind_some]
    unfold J7 b3f
    simp only
    rw [if_pos hf,G7 (by omega)]
   ·rw [e]
    simp only [Option.bind_some,Bool.false_eq_true,if_false]
    have l1:=hr.rf.l1
    rw [a8J _ (by omega)]
    simp only [Option.bind_some]
    rw [E5 _ _ _ (by simp;omega) (by decide)]
    simp only [Option.bind_some]
    unfold J7 b3f
    simp only
    rw [if_neg hf,G7 (by omega)]
    rfl
  ·unfold M4
   simp only
   rw [if_neg (by simp),List.take_length]
 rw [hw]
 rfl
end Go.Proofs.YtdcafiefjakfeaaGreat.Sh
namespace Go.Proofs.YtdcafiefjakfeaaGreat.Sh
open Go
set_option linter.unusedVariables false
set_option linter.unusedSimpArgs false
theorem RF.cover {r:Record} (h:RF r) {t:Int} (h1:o5 r 0≤t) (h2:t<o5 r r.Samples.length):∃ i:Nat,i<r.Samples.length∧o5 r (i:Int)≤t∧t<o5 r ((i:Int)+1):=by
 have key:∀ k:Nat,k≤r.Samples.length→t<o5 r (k:Int)→∃ j:Nat,j<k∧o5 r (j:Int)≤t∧t<o5 r ((j:Int)+1):=by
  intro k
  induction k with
  | zero=>intro _ hx;exact absurd hx (by rw [show ((0:Nat):Int)=0 from rfl];omega)
  | succ k ih=>
   intro hk hx
   by_cases hc:t<o5 r (k:Int)
   ·obtain ⟨j,hj,hh⟩:=ih (by omega) hc
    exact ⟨j,by omega,hh⟩
   ·exact ⟨k,by omega,by omega,by rw [show (k:Int)+1=((k+1:Nat):Int) by omega];exact hx⟩
 exact key r.Samples.length (Nat.le_refl _) h2
def Apart (x y:Record):Prop:=∀ t,¬ ((o5 x 0≤t∧t<o5 x x.Samples.length)∧o5 y 0≤t∧t<o5 y y.Samples.length)
theorem b2W {l:List Record} (h:VL l) {r:Record} (hr:r∈l) {a b:Nat} (hp:(a,b)∈b0f (K6 I7 l) r) {t:Int} (h1:o5 (a7q r a b) 0≤t) (h2:t<o5 (a7q r a b) (a7q r a b).Samples.length):∃ i,a≤i∧i<b∧i<r.Samples.length∧keepR (K6 I7 l) r i=true∧o5 r (i:Int)≤t∧t<o5 r ((i:Int)+1):=by
 have hR:=h.rf r hr
 obtain ⟨p1,p2,p3,_⟩:=(a0c (K6 I7 l) hR).2.1.ok _ hp
 simp only at p1 p2 p3
 obtain ⟨j,hj,t1,t2⟩:=(hR.sub p1 p2).cover h1 h2
 rw [b0k r a b p2] at hj
 rw [a8P] at t1 t2
 refine ⟨a+j,by omega,by omega,by omega,p3 _ (by omega) (by omega),?_,?_⟩
 ·rw [show ((a+j:Nat):Int)=(a:Int)+(j:Int) by omega];exact t1
 ·rw [show ((a+j:Nat):Int)+1=(a:Int)+((j:Int)+1) by omega];exact t2
theorem CompOf.apart {l m:List Record} (hc:CompOf l m) (h:VL l):m.Pairwise Apart:=by
 refine (hc.perm.pairwise_iff (fun {x y} hxy t ht=>hxy t ⟨ht.2,ht.1⟩)).2 ?_
 rw [List.pairwise_flatMap]
 refine ⟨fun r hr=>?_,?_⟩
 ·have hr:=a0n.1 hr
  have hR:=h.rf r hr
  have hs:=(a0c (K6 I7 l) hR).2.1
  unfold Q7 a1o
  rw [List.pairwise_map]
  refine List.Pairwise.imp_of_mem (fun {p q} hp hq hpq t ht=>?_) hs.asc
  obtain ⟨a1,a2,_⟩:=hs.ok p hp
  obtain ⟨b1,b2,_⟩:=hs.ok q hq
  have e1:=b0k r p.1 p.2 a2
  have h1:=ht.1.2
  have h2:=ht.2.1
  rw [e1,a8P] at h1
  rw [a8P] at h2
  have:=hR.mono (i:=(p.1:Int)+((p.2 - p.1:Nat):Int)) (j:=(q.1:Int)+0) (by omega)
  omega
 ·refine List.Pairwise.imp_of_mem (fun {r q} hr hq hrq x hx y hy t ht=>?_) (a3l P9 (fun _ _=>a1v) l)
  have hr:=a0n.1 hr
  have hq:=a0n.1 hq
  obtain ⟨p,hp,rfl⟩:=List.mem_map.1 hx
  obtain ⟨p',hp',rfl⟩:=List.mem_map.1 hy
  obtain ⟨i,_,_,i1,ki,t1,t2⟩:=b2W h hr (a:=p.1) (b:=p.2) hp ht.1.1 ht.1.2
  obtain ⟨j,_,_,j1,kj,t3,t4⟩:=b2W h hq (a:=p'.1) (b:=p'.2) hp' ht.2.1 ht.2.2
  have e:=(b6n h hr hq i1 j1 ki kj t1 t2 t3 t4).1
  subst e
  have:=P9.refl r
  omega
theorem CompOf.strict {l m:List Record} (hc:CompOf l m) (h:VL l):m.Pairwise (fun a b=>I7 a b<0):=by
 refine List.Pairwise.imp_of_mem (fun {x y} hx hy hxy=>?_) (hc.asc.and (hc.apart h))
 rcases Int.lt_or_eq_of_le hxy.1 with h1 | h1
 ·exact h1
 ·have e:=a1v h1
  subst e
  have hR:=hc.rf h hx
  exact absurd ⟨⟨Int.le_refl _,hR.lt (by have:=hR.l0;omega)⟩,Int.le_refl _,hR.lt (by have:=hR.l0;omega)⟩ (hxy.2 (o5 x 0))
end Go.Proofs.YtdcafiefjakfeaaGreat.Sh
namespace Go.Proofs.YtdcafiefjakfeaaGreat.Sh
open Go
set_option linter.unusedVariables false
set_option linter.unusedSimpArgs false
theorem b5j {a b:Record} (ha:RSm a) (hb:RSm b) (h6:a.Samples.length≤1000000):a5F a b=some (decide (a8R a b<0)):=by
 unfold a5F
 simp only [b1F,Option.bind]
 rw [a7E (l:=[I4 a.Error b.Error,I4 b.Run a.Run,I4 b.Seq a.Seq]) (f:=fun x=>decide (x<0)) (z:=decide (I7 a b<0)) (by simp)]
 ·simp only [a7a,a9P,a8R,andThen,Option.some.injEq]
  split
  ·rfl
  ·split
   ·rfl
   ·split <;> rfl
 ·intro i hi hx
  unfold a3L
  rw [if_pos (decide_eq_true (by simp at hi;omega)),w9 _ _ hi]
  simp only [Option.bind,hx]
  rw [y8 (by omega) (by simp at hi;omega)];rfl
 ·intro i hi hx
  unfold a3L
  rw [if_pos (decide_eq_true (by simp at hi;omega)),w9 _ _ hi]
  simp only [Option.bind]
  rw [if_pos (by simpa using hx)]
 ·intro _
  unfold a3L
  rw [if_neg (by simp),a8t ha hb h6];rfl
end Go.Proofs.YtdcafiefjakfeaaGreat.Sh
namespace Go.Proofs.YtdcafiefjakfeaaGreat.Sh
open Go
set_option linter.unusedVariables false
set_option linter.unusedSimpArgs false
theorem b1c {A:List Record} {x:Record} {k:Nat} (hk:k<A.length):V5 (A.take (k+1)) x=V5 (A.take k) x ++ (if decide (a8R A[k] x<0)=true then [a6m A[k]] else []):=by
 unfold V5
 rw [G6 hk,List.filter_append,List.map_append]
 congr 1
 by_cases h:a8R A[k] x<0
 ·simp [h]
 ·simp [h]
theorem b3F {A:List Record} (hA:∀ r∈A,RF r) (hl:A.length≤1000) {i:Nat} (hi:i<A.length) (o:List Record) :
  ∃ b,l9 (a0I A (o,(i:Int))) (([]:List Span),0)=some b∧VS b∧(∀ z,Mem b z↔Mem (V5 A A[i]) z)∧b.length≤A.length:=by
 have hx:=hA _ (List.getElem_mem hi)
 obtain ⟨b,eb,h1,h2,h3⟩:=Y3 (body:=a0I A (o,(i:Int))) (fun (a:List Span) j=>(a,j)) A.length
  (fun k a=>VS a∧(∀ z,Mem a z↔Mem (V5 (A.take k) A[i]) z)∧a.length≤k) (fun b=>VS b∧(∀ z,Mem b z↔Mem (V5 A A[i]) z)∧b.length≤A.length) (fun k hk a ⟨g1,g2,g3⟩=>by
   have hr:=hA _ (List.getElem_mem hk)
   have l1:=hr.l1
   unfold a0I
   simp only
   rw [if_pos (decide_eq_true (by omega)),w9 _ _ hk,w9 _ _ hi]
   simp only [Option.bind_some]
   rw [b5j hr.sm hx.sm (by omega)]
   simp only [Option.bind_some]
   unfold a3d
   simp only [Option.bind_some]
   rw [G7 (n:=k) (by omega)]
   by_cases hb:a8R A[k] A[i]<0
   ·rw [if_pos (decide_eq_true hb),hr.refSpan]
    simp only [Option.bind_some]
    obtain ⟨u,eu,hu⟩:=b4K (a:=a) (b:=[⟨o5 A[k] 0,o5 A[k] A[k].Samples.length⟩]) (by simp;omega)
    rw [eu]
    refine ⟨u,rfl,hu.vs,fun z=>?_,?_⟩
    ·rw [hu.mem,b1c hk,mem_append,mem_append,g2,if_pos (decide_eq_true hb)]
     rfl
    ·have:=hu.len
     simp at this
     omega
   ·rw [if_neg (by simpa using hb)]
    refine ⟨a,rfl,g1,fun z=>?_,by omega⟩
    rw [g2,b1c hk,if_neg (by simpa using hb),List.append_nil]) (fun a ⟨g1,g2,g3⟩=>by
   unfold a0I
   simp only
   rw [if_neg (by simp)]
   rw [List.take_length] at g2
   exact ⟨a,rfl,g1,g2,g3⟩) [] ⟨VS.nil,fun z=>by simp [V5],Nat.le_refl _⟩
 exact ⟨b,eb,h1,h2,h3⟩
theorem b6w {r:Record} (h:RF r) {b L:List Span} (hb:b.length<100) (hL:∀ s∈L,s.From<s.To) (hm:∀ z,Mem b z↔Mem L z) (j:Nat) :
  ∃ c,a7j b (o5 r (j:Int)) (o5 r ((j:Int)+1))=some c∧((c.length:Int) == 0)=a6w r L j:=by
 obtain ⟨c,ec,hv,hc⟩:=b5m (a:=b) (b:=[⟨o5 r (j:Int),o5 r ((j:Int)+1)⟩]) hb (by simp)
 refine ⟨c,by unfold a7j;rw [ec];rfl,?_⟩
 rw [Bool.eq_iff_iff,a7e h hL,beq_iff_eq]
 constructor
 ·intro h0 y y0 y1 hy
  have:=(hc y).2 ⟨(hm y).2 hy,Y5.2 ⟨y0,y1⟩⟩
  have e:c=[]:=List.eq_nil_of_length_eq_zero (by omega)
  rw [e] at this
  exact Mem.nil this
 ·intro hk
  cases c with
  | nil=>rfl
  | cons s c=>
   exfalso
   have hs:=hv.ne s List.mem_cons_self
   have:=(hc s.From).1 ⟨s,List.mem_cons_self,Int.le_refl _,hs⟩
   have h2:=Y5.1 this.2
   exact hk s.From h2.1 h2.2 ((hm _).1 this.1)
structure RunG (k:Nat→Bool) (j:Nat) (P:List (Nat × Nat)) (first:Int):Prop where
 ok:∀ p∈P,p.1<p.2∧p.2<j∧(∀ i,p.1≤i→i<p.2→k i=true)∧k p.2=false
 asc:P.Pairwise (fun p q=>p.2<q.1)
 st:(first=-1∧∀ i,i<j→k i=true→∃ p∈P,p.1≤i∧i<p.2)∨∃ f:Nat,first=f∧f<j∧(∀ i,f≤i→i<j→k i=true)∧(∀ p∈P,p.2<f)∧∀ i,i<f→k i=true→∃ p∈P,p.1≤i∧i<p.2
 len:P.length≤j
theorem RunG.zero (k:Nat→Bool):RunG k 0 [] (-1):=⟨fun p h=>(by cases h),List.Pairwise.nil,.inl ⟨rfl,fun i h=>by omega⟩,Nat.le_refl _⟩
theorem RunG.grow {k:Nat→Bool} {j:Nat} {P:List (Nat × Nat)} {first:Int} (h:RunG k j P first) (hk:k j=true):RunG k (j+1) P (if first<0 then (j:Int) else first):=by
 refine ⟨fun p hp=>by obtain ⟨a,b,c⟩:=h.ok p hp;exact ⟨a,by omega,c⟩,h.asc,.inr ?_,by have:=h.len;omega⟩
 rcases h.st with ⟨e,h1⟩ | ⟨f,e,h1,h2,h3,h4⟩
 ·rw [e,if_pos (by decide)]
  exact ⟨j,rfl,by omega,fun i h5 h6=>by rw [show i=j by omega];exact hk,fun p hp=>(h.ok p hp).2.1,h1⟩
 ·rw [e,if_neg (by omega)]
  refine ⟨f,rfl,by omega,fun i h5 h6=>?_,h3,h4⟩
  by_cases hi:i=j
  ·rw [hi];exact hk
  ·exact h2 i h5 (by omega)
theorem RunG.skip {k:Nat→Bool} {j:Nat} {P:List (Nat × Nat)} (h:RunG k j P (-1)) (hk:k j=false):RunG k (j+1) P (-1):=by
 refine ⟨fun p hp=>by obtain ⟨a,b,c⟩:=h.ok p hp;exact ⟨a,by omega,c⟩,h.asc,.inl ⟨rfl,fun i hi hki=>?_⟩,by have:=h.len;omega⟩
 rcases h.st with ⟨e,h1⟩ | ⟨f,e,_⟩
 ·by_cases hij:i=j
  ·rw [hij,hk] at hki;cases hki
  ·exact h1 i (by omega) hki
 ·exact absurd e (by omega)
theorem RunG.close {k:Nat→Bool} {j:Nat} {P:List (Nat × Nat)} {f:Nat} (h:RunG k j P (f:Int)) (hk:k j=false):f<j∧RunG k (j+1) (P ++ [(f,j)]) (-1):=by
 rcases h.st with ⟨e,h1⟩ | ⟨f',e,h1,h2,h3,h4⟩
 ·exact absurd e (by omega)
 ·have:f'=f:=by omega
  subst this
  refine ⟨h1,fun p hp=>?_,?_,.inl ⟨rfl,fun i hi hki=>?_⟩,by have:=h.len;simp;omega⟩
  ·rcases List.mem_append.1 hp with hp | hp
   ·obtain ⟨a,b,c⟩:=h.ok p hp
    exact ⟨a,by omega,c⟩
   ·rcases List.mem_singleton.1 hp with rfl
    exact ⟨h1,by simp only;omega,h2,hk⟩
  ·rw [List.pairwise_append]
   refine ⟨h.asc,List.pairwise_singleton _ _,fun p hp q hq=>?_⟩
   rcases List.mem_singleton.1 hq with rfl
   exact h3 p hp
  ·by_cases h5:i<f'
   ·obtain ⟨p,hp,q⟩:=h4 i h5 hki
    exact ⟨p,List.mem_append_left _ hp,q⟩
   ·by_cases hij:i=j
    ·rw [hij,hk] at hki;cases hki
    ·exact ⟨(f',j),List.mem_append_right _ List.mem_cons_self,by simp only;omega,by simp only;omega⟩
theorem RunG.done {k:Nat→Bool} {n:Nat} {P:List (Nat × Nat)} {first:Int} (h:RunG (fun i=>decide (i<n) && k i) (n+1) P first):RunsOf k n P:=by
 have hst:∀ i,i<n+1→(decide (i<n) && k i)=true→∃ p∈P,p.1≤i∧i<p.2:=by
  rcases h.st with ⟨_,h1⟩ | ⟨f,_,h1,h2,_⟩
  ·exact h1
  ·have:=h2 n (by omega) (by omega)
   simp at this
 refine ⟨fun p hp=>?_,h.asc,fun i hi hki=>hst i (by omega) (by simp [hi,hki])⟩
 obtain ⟨a,b,c,d⟩:=h.ok p hp
 refine ⟨a,by omega,fun i h1 h2=>?_,?_⟩
 ·have:=c i h1 h2
  simp only [Bool.and_eq_true] at this
  exact this.2
 ·simp only [Bool.and_eq_false_iff,decide_eq_false_iff_not] at d
  rcases d with d | d
  ·exact .inl (by omega)
  ·exact .inr d
theorem b5o {A:List Record} (hA:∀ r∈A,RF r) {i:Nat} (hi:i<A.length) (hsm:A[i].Samples.length≤1000) {b:List Span} (hb:b.length<100) (hm:∀ z,Mem b z↔Mem (V5 A A[i]) z) (o:List Record) (ol:o.length≤100000) :
  l9 (a0J A (o,(i:Int)) b) (o,(-1),0)=some (o ++ Q7 A A[i]):=by
 obtain ⟨x,hx⟩:∃ x,A[i]=x:=⟨_,rfl⟩
 have hR:=hA _ (List.getElem_mem hi)
 rw [hx] at hsm hm hR ⊢
 obtain ⟨n,hn⟩:∃ n,x.Samples.length=n:=⟨_,rfl⟩
 rw [hn] at hsm
 obtain ⟨k,hk⟩:∃ k:Nat→Bool,(fun i=>decide (i<n) && keepR A x i)=k:=⟨_,rfl⟩
 obtain ⟨q,eq,hq⟩:=Y3 (body:=a0J A (o,(i:Int)) b) (fun (a:List (Nat × Nat) × Int) j=>(o ++ a1o x a.1,a.2,j)) (n+1)
  (fun j a=>RunG k j a.1 a.2) (fun q=>∃ P,q=o ++ a1o x P∧RunsOf (keepR A x) n P) (fun j hj a g=>by
   obtain ⟨P,first⟩:=a
   simp only at g
   unfold a0J
   simp only
   rw [w9 _ _ hi,hx]
   simp only [Option.bind_some]
   rw [hn,if_pos (decide_eq_true (by omega))]
   have hc:(if decide ((j:Int)<(n:Int))=true then (J4 x (j:Int)).bind fun rv3477=>(J4 x (w64 ((j:Int)+1))).bind fun rv3492=>(a7j b rv3477 rv3492).bind fun rv3494=>some ((rv3494.length:Int) == 0) else some false)=some (k j):=by
    rw [← hk]
    by_cases hjn:j<n
    ·rw [if_pos (decide_eq_true (by omega)),y8 (by omega) (by omega),hR.reftime (by omega) (by omega),hR.reftime (by omega) (by omega)]
     simp only [Option.bind_some]
     obtain ⟨c,ec,hce⟩:=b6w hR hb (a7x hA x) hm j
     rw [ec]
     simp only [Option.bind_some,hce,hjn,decide_true,Bool.true_and]
     rfl
    ·rw [if_neg (by simp;omega)]
     simp [hjn]
   rw [hc]
   simp only [Option.bind_some]
   clear hc
   unfold a3e a3f
   simp only [Option.bind_some]
   rw [G7 (n:=j) (by omega)]
   cases hkj:k j with
   | true=>
    have g':=g.grow hkj
    simp only [Bool.true_and,Bool.not_true,Bool.false_and,Bool.false_eq_true,if_false]
    by_cases hf:first<0
    ·rw [if_pos (decide_eq_true hf)]
     rw [if_pos hf] at g'
     exact ⟨(P,(j:Int)),rfl,g'⟩
    ·rw [if_neg (by simpa using hf)]
     rw [if_neg hf] at g'
     exact ⟨(P,first),rfl,g'⟩
   | false=>
    simp only [Bool.false_and,Bool.false_eq_true,if_false,Bool.not_false,Bool.true_and]
    by_cases hf:0≤first
    ·obtain ⟨f,rfl⟩:∃ f:Nat,first=f:=⟨first.toNat,by omega⟩
     obtain ⟨h1,h2⟩:=g.close hkj
     have hlen:=g.len
     rw [if_pos (decide_eq_true hf),w9 _ _ hi,hx]
     simp only [Option.bind_some]
     rw [b5N hR h1 (by omega)]
     simp only [Option.bind_some]
     rw [E5 _ _ _ (by simp [a1o];omega) (by decide)]
     refine ⟨(P ++ [(f,j)],-1),?_,h2⟩
     simp [a1o]
    ·have hf1:first=-1:=by
      rcases g.st with ⟨e,_⟩ | ⟨f,e,_⟩
      ·exact e
      ·omega
     subst hf1
     rw [if_neg (by decide)]
     exact ⟨(P,-1),rfl,g.skip hkj⟩) (fun a g=>by
   obtain ⟨P,first⟩:=a
   simp only at g
   unfold a0J
   simp only
   rw [w9 _ _ hi,hx]
   simp only [Option.bind_some]
   rw [hn,if_neg (by simp;omega)]
   rw [← hk] at g
   exact ⟨_,rfl,P,rfl,g.done⟩) ([],-1) (RunG.zero k)
 obtain ⟨P,rfl,hP⟩:=hq
 have e0:o ++ a1o x []=o:=by simp [a1o]
 simp only [e0] at eq
 have hs:=(a0c A hR).2.1
 rw [hn] at hs
 unfold Q7
 rw [hs.uniq hP]
 exact eq
theorem rcomp_ok {l m:List Record} (h:VS15 l) (hc:CompOf l m) {K:Nat} (hK:∀ r∈l,r.Samples.length≤K) (hb:(K+1) * l.length≤1000) (h99:l.length<100):a3y l=some (m,0):=by
 have hA:∀ r∈K6 I7 l,RF r:=fun r hr=>h.rf r (a0n.1 hr)
 have hsl:=a0T I7 l
 unfold a3y
 rw [b0S h.toVL (by omega)]
 simp only [Option.bind_some,Bool.not_true,Bool.false_eq_true,if_false]
 rw [b2Z h.toVL (by omega)]
 simp only [Option.bind_some]
 obtain ⟨A,hAe⟩:∃ A,K6 I7 l=A:=⟨_,rfl⟩
 have hmA:∀ r∈A,r∈l:=fun r hr=>a0n.1 (hAe ▸ hr)
 rw [hAe] at hA hsl ⊢
 have hp:∀ r∈A,(Q7 A r).length≤K+1:=fun r hr=>by
  have h1:=(a0c A (hA r hr)).2.2
  have h2:=hK r (hmA r hr)
  unfold Q7 a1o
  rw [List.length_map];omega
 have hfl:∀ i,((A.take i).flatMap (Q7 A)).length≤1000:=fun i=>by
  have h1:=a0D (Q7 A) (K+1) (A.take i) fun x hx=>hp x (List.mem_of_mem_take hx)
  have h2:=Nat.mul_le_mul_left (K+1) (show (A.take i).length≤l.length by rw [List.length_take];omega)
  omega
 have hw:l9 (a3g A) (([]:List Record),0)=some (A.flatMap (Q7 A)):=by
  refine D9 (fun i=>((A.take i).flatMap (Q7 A),(i:Int))) A.length _ (by simp) (fun i hi=>?_) ?_
  ·unfold a3g
   simp only
   rw [if_pos (decide_eq_true (by omega))]
   obtain ⟨b,eb,hv,hm,hbl⟩:=b3F hA (by omega) hi ((A.take i).flatMap (Q7 A))
   rw [eb]
   simp only [Option.bind_some]
   have:=hfl i
   rw [b5o hA hi (by have:=h.smp _ (hmA _ (List.getElem_mem hi));omega) (by omega) hm _ (by omega)]
   simp only [Option.bind_some]
   rw [G7 (by omega),G6 hi,List.flatMap_append,List.flatMap_singleton]
  ·unfold a3g
   simp only
   rw [if_neg (by simp),List.take_length]
 rw [hw]
 simp only [Option.bind_some]
 have hr:∀ q∈A.flatMap (Q7 A),RF q:=fun q hq=>by
  obtain ⟨r,hr,hq⟩:=List.mem_flatMap.1 hq
  obtain ⟨a,b,h1,h2,rfl,_⟩:=b2a (hA r hr) q hq
  exact (hA r hr).sub h1 h2
 have hf:=hfl A.length
 rw [List.take_length] at hf
 rw [b2n (fun r h=>⟨(hr r h).sm,by have:=(hr r h).l1;omega⟩) (by omega)]
 simp only [Option.bind_some]
 have hpm:=hc.perm
 rw [hAe] at hpm
 have:K6 I7 (A.flatMap (Q7 A))=m:=a3p P9 (a3l P9 (fun _ _=>a1v) _) (hc.strict h.toVL) fun x=>by rw [a0n,hpm.mem_iff]
 rw [this]
end Go.Proofs.YtdcafiefjakfeaaGreat.Sh

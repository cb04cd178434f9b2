/- The plain law: what the plain programs compute, put together in one text. -/
import Derived.Test.YteanekphncdhiaaGreatLc1
import Derived.Test.YteanekphncdhiaaGreatSh
import Derived.Laws.Strings
namespace Go.Proofs.YteanekphncdhiaaGreat.Sh
open Go
set_option linter.unusedVariables false
set_option linter.unusedSimpArgs false
def inB (n lo hi:Int):Bool:=decide (lo≤n) && decide (n≤hi)
theorem a0e {n lo hi:Int}:inB n lo hi=true↔lo≤n∧n≤hi:=by simp [inB]
theorem b3G (n lo hi:Int):b0c n lo hi=some (inB n lo hi):=rfl
theorem b4Z (m n:Nat):((m:Int).tmod (n:Int))=((m % n:Nat):Int):=by
 rw [Int.tmod_eq_emod_of_nonneg (Int.natCast_nonneg m)];rfl
theorem b4f {body:Int × Int→Option ((Int × Int) ⊕ Int)} (hb:∀ s,body s=if (s.2 != 0)=true then (remM s.1 s.2).bind fun r=>some (Sum.inl (s.2,r)) else some (Sum.inr s.1)) (a b:Nat) :
  o5 body ((a:Int),(b:Int))=some (Nat.gcd a b:Int):=by
 have h:=b0W (body:=body) (fun s=>∃ x y:Nat,s=((x:Int),(y:Int))∧Nat.gcd x y=Nat.gcd a b) (fun s=>s.2.toNat) (fun r=>r=(Nat.gcd a b:Int)) (by
  rintro s ⟨x,y,rfl,hg⟩
  by_cases hy:y=0
  ·right
   subst hy
   refine ⟨(x:Int),?_,?_⟩
   ·rw [hb];simp
   ·rw [← hg];simp
  ·left
   have hy':(y:Int)≠0:=by omega
   refine ⟨((y:Int),((x % y:Nat):Int)),?_,⟨y,x % y,rfl,?_⟩,?_⟩
   ·rw [hb,if_pos (by simpa using hy)]
    simp only
    rw [b4m _ _ hy',b4Z]
    rfl
   ·rw [← hg,Nat.gcd_comm y,← Nat.gcd_rec,Nat.gcd_comm]
   ·simp only [Int.toNat_natCast]
    exact Nat.mod_lt _ (by omega)) ((a:Int),(b:Int)) ⟨a,b,rfl,rfl⟩
 obtain ⟨r,hr,rfl⟩:=h
 exact hr
theorem b2U (a b:Int) (ha:0≤a) (hb:0≤b):a8P a b=some (Int.gcd a b:Int):=by
 obtain ⟨m,rfl⟩:=Int.eq_ofNat_of_zero_le ha
 obtain ⟨n,rfl⟩:=Int.eq_ofNat_of_zero_le hb
 unfold a8P
 rw [b4f (body:=a9N) (fun _=>rfl)]
 rfl
structure RV (r:Rate):Prop where
 n0:1≤r.Num
 n1:r.Num≤4096
 d0:1≤r.Den
 d1:r.Den≤4096
 g:Int.gcd r.Num r.Den=1
def a8m (r:Rate):Bool:=inB r.Num 1 4096 && (inB r.Den 1 4096 && decide (Int.gcd r.Num r.Den=1))
theorem b3F {r:Rate}:a8m r=true↔RV r:=by
 simp only [a8m,inB,Bool.and_eq_true,decide_eq_true_eq]
 exact ⟨fun ⟨⟨a,b⟩,⟨c,d⟩,e⟩=>⟨a,b,c,d,e⟩,fun ⟨a,b,c,d,e⟩=>⟨⟨a,b⟩,⟨c,d⟩,e⟩⟩
theorem b1f (r:Rate):a6o r=some (a8m r):=by
 unfold a6o a8m
 simp only [b3G,Option.bind]
 by_cases h1:inB r.Num 1 4096=true
 ·by_cases h2:inB r.Den 1 4096=true
  ·have a1:=a0e.1 h1
   have a2:=a0e.1 h2
   rw [if_pos h1,h1,h2,b2U _ _ (by omega) (by omega)]
   simp only [if_true,Bool.true_and,Option.some.injEq]
   rw [Bool.eq_iff_iff];simp;omega
  ·simp only [Bool.not_eq_true] at h2
   simp [h1,h2]
 ·simp only [Bool.not_eq_true] at h1
  simp [h1]
theorem quo_nn {a b:Int} (hb:0<b) (ha:0≤a) (h:a≤9223372036854775807):quoM .i64 a b=some (a / b):=by
 rw [quoM_at _ _ _ (by omega),Int.tdiv_eq_ediv_of_nonneg ha]
 have h1:=Int.ediv_le_self b ha
 have h2:=Int.ediv_nonneg ha (by omega:0≤b)
 have:=G6 (x:=a / b) (by omega) (by omega)
 simp only [w64] at this
 rw [this]
end Go.Proofs.YteanekphncdhiaaGreat.Sh
namespace Go.Proofs.YteanekphncdhiaaGreat.Sh
open Go
set_option linter.unusedVariables false
set_option linter.unusedSimpArgs false
def a5B (c:Int):Bool:=(decide (65≤c) && decide (c≤90)) || (decide (48≤c) && decide (c≤57))
def bts (s:ByteArray):List UInt8:=s.data.toList
theorem a8b (s:ByteArray) (i:Nat) (h:i<(bts s).length):a5x s (i:Int)=some (((bts s)[i]).toNat:Int):=by
 have hs:i<s.size:=by simpa [bts] using h
 unfold a5x
 rw [if_pos (Int.natCast_nonneg i),Int.toNat_natCast]
 have:s[i]? = some s[i]:=getElem?_pos s i hs
 rw [this]
 rfl
def a1e (s:ByteArray) (lo hi:Int):Bool:=((bts s).all fun c=>a5B c.toNat) && inB s.size lo hi
theorem a3U (s:ByteArray) (lo hi:Int) (hs:s.size≤9223372036854775807):a2k s lo hi=some (a1e s lo hi):=by
 unfold a2k a1e
 have hl:s.size=(bts s).length:=by simp [bts]
 rw [a8J (bts s).length (fun i=>a5B (((bts s).getD i 0).toNat:Int)) false (inB s.size lo hi)]
 ·rw [a9t (bts s) (fun c=>a5B c.toNat) _ (fun i hi=>by simp [List.getD_eq_getElem?_getD,hi])]
  cases (bts s).all (fun c=>a5B c.toNat) <;> simp
 ·intro i hi hp
  have e:(bts s).getD i 0=(bts s)[i]:=by simp [List.getD_eq_getElem?_getD,hi]
  rw [e] at hp
  unfold a3V
  rw [if_pos (decide_eq_true (by omega)),a8b s i hi]
  simp only [Option.bind,a4T]
  have:((decide (65≤(((bts s)[i]).toNat:Int)) && decide ((((bts s)[i]).toNat:Int)≤90)) || (decide (48≤(((bts s)[i]).toNat:Int)) && decide ((((bts s)[i]).toNat:Int)≤57)))=true:=hp
  rw [this]
  simp only [Bool.not_true,Bool.false_eq_true,if_false]
  rw [G6 (by omega) (by omega)]
  rfl
 ·intro i hi hp
  have e:(bts s).getD i 0=(bts s)[i]:=by simp [List.getD_eq_getElem?_getD,hi]
  rw [e] at hp
  unfold a3V
  rw [if_pos (decide_eq_true (by omega)),a8b s i hi]
  simp only [Option.bind,a4T]
  have:((decide (65≤(((bts s)[i]).toNat:Int)) && decide ((((bts s)[i]).toNat:Int)≤90)) || (decide (48≤(((bts s)[i]).toNat:Int)) && decide ((((bts s)[i]).toNat:Int)≤57)))=false:=hp
  rw [this]
  simp
 ·unfold a3V
  rw [if_neg (by simp;omega)]
  rfl
def a5j (s:SourceID):Bool:=a1e s.Network 1 2 && a1e s.Station 1 5 && a1e s.Location 0 2 && !((s.Location.size:Int) == 1) && a1e s.Channel 3 3
structure SrcSm (x:SourceID):Prop where
 n:x.Network.size≤9223372036854775807
 s:x.Station.size≤9223372036854775807
 l:x.Location.size≤9223372036854775807
 c:x.Channel.size≤9223372036854775807
theorem a6F {s:SourceID} (h:SrcSm s):a3T s=some (a5j s):=by
 unfold a3T a5j
 rw [a3U _ _ _ h.n,a3U _ _ _ h.s,a3U _ _ _ h.l,a3U _ _ _ h.c]
 have hb:((s.Location.size:Int) != 1)=!((s.Location.size:Int) == 1):=rfl
 rw [hb]
 cases a1e s.Network 1 2 <;> cases a1e s.Station 1 5 <;> cases a1e s.Location 0 2 <;> cases ((s.Location.size:Int) == 1) <;> cases a1e s.Channel 3 3 <;> rfl
theorem b1d (x y:ByteArray):Q4 x y=some (a6U x y):=by
 unfold Q4 cmp_isNaN_string
 rw [b0m]
 simp only [beq_self_eq_true,Bool.not_true,Option.bind,Bool.false_eq_true,if_false]
 cases Op.bytesLess x.toList y.toList
 ·cases (x.toList == y.toList) <;> simp
 ·simp
theorem b4O (l:List Int) (hl:l.length≤1000000):a6d l=some (orL l):=by
 unfold a6d
 have key:∀ m,m≤l.length→o5 (a4l l) ((l.length - m:Nat):Int)=some (orL (l.drop (l.length - m))):=by
  intro m
  induction m with
  | zero=>
   intro _
   rw [I8,Nat.sub_zero]
   unfold a4l
   rw [if_neg (by simp)]
   simp [orL]
  | succ m ih=>
   intro hm
   have ih:=ih (by omega)
   rw [show l.length - m=l.length - (m+1)+1 by omega] at ih
   have hi:l.length - (m+1)<l.length:=by omega
   rw [I8]
   unfold a4l
   rw [if_pos (decide_eq_true (by omega)),w9 _ _ hi,List.drop_eq_getElem_cons hi]
   simp only [Option.bind,orL]
   by_cases hx:l[l.length - (m+1)]=0
   ·rw [if_neg (by simp [hx]),if_neg (by omega),G6 (by omega) (by omega)]
    exact ih
   ·rw [if_pos (by simpa using hx),if_pos hx]
 have:=key l.length (Nat.le_refl _)
 rw [Nat.sub_self] at this
 exact this
def F3 (a b:SourceID):Int:=andThen (fun a b=>a6U a.Network b.Network) (andThen (fun a b=>a6U a.Station b.Station) (andThen (fun a b=>a6U a.Location b.Location) (fun a b=>a6U a.Channel b.Channel))) a b
theorem R6:Cmp F3:=(a8E.by (fun s:SourceID=>s.Network)).andThen ((a8E.by (fun s:SourceID=>s.Station)).andThen ((a8E.by (fun s:SourceID=>s.Location)).andThen (a8E.by (fun s:SourceID=>s.Channel))))
theorem a2n {a b:SourceID} (h:F3 a b=0):a=b:=by
 unfold F3 andThen at h
 have h1:a6U a.Network b.Network=0:=Classical.byContradiction fun hn=>by rw [if_pos hn] at h;exact hn h
 rw [if_neg (by omega)] at h
 have h2:a6U a.Station b.Station=0:=Classical.byContradiction fun hn=>by rw [if_pos hn] at h;exact hn h
 rw [if_neg (by omega)] at h
 have h3:a6U a.Location b.Location=0:=Classical.byContradiction fun hn=>by rw [if_pos hn] at h;exact hn h
 rw [if_neg (by omega)] at h
 cases a;cases b
 simp only [SourceID.mk.injEq]
 exact ⟨a9Z h1,a9Z h2,a9Z h3,a9Z h⟩
theorem a3R (a b:SourceID):V4 a b=some (F3 a b):=by
 unfold V4
 simp only [b1d,Option.bind]
 rw [b4O _ (by simp)]
 simp only [orL,F3,andThen,Option.some.injEq]
 split
 ·rfl
 ·split
  ·rfl
  ·split
   ·rfl
   ·split <;> omega
theorem a4n (s:ByteArray) (lo hi:Int) (hs:s.size≤9223372036854775807):a3d s lo hi=some (a1e s lo hi):=by
 unfold a3d a1e
 have hl:s.size=(bts s).length:=by simp [bts]
 have step:∀ (i:Nat) (hi':i<(bts s).length),a4o s lo hi (i:Int)=if a5B (((bts s)[i]).toNat:Int)=true then some (.inl ((i+1:Nat):Int)) else some (.inr false):=by
  intro i hi'
  unfold a4o
  rw [if_pos (decide_eq_true (by omega)),a8b s i hi']
  generalize (((bts s)[i]).toNat:Int)=c
  simp only [Option.bind]
  rw [G6 (by omega) (by omega)]
  unfold a5B
  by_cases h1:65≤c <;> by_cases h2:c≤90 <;> by_cases h3:48≤c <;> by_cases h4:c≤57 <;> simp [h1,h2,h3,h4]
 rw [a8J (bts s).length (fun i=>a5B (((bts s).getD i 0).toNat:Int)) false (inB s.size lo hi)]
 ·rw [a9t (bts s) (fun c=>a5B c.toNat) _ (fun i hi=>by simp [List.getD_eq_getElem?_getD,hi])]
  cases (bts s).all (fun c=>a5B c.toNat) <;> simp
 ·intro i hi hp
  have e:(bts s).getD i 0=(bts s)[i]:=by simp [List.getD_eq_getElem?_getD,hi]
  rw [e] at hp
  rw [step i hi,if_pos hp]
 ·intro i hi hp
  have e:(bts s).getD i 0=(bts s)[i]:=by simp [List.getD_eq_getElem?_getD,hi]
  rw [e] at hp
  rw [step i hi,hp]
  rfl
 ·unfold a4o
  rw [if_neg (by simp;omega)]
  rfl
theorem b0S (s:ByteArray):s.toList=bts s:=ByteArray.toList_eq s
theorem nil_iff (s:ByteArray):(s.toList == (⟨#[]⟩:ByteArray).toList)=decide (s.size=0):=by
 rw [b0S,b0S]
 have:bts (⟨#[]⟩:ByteArray)=[]:=rfl
 rw [this,Bool.eq_iff_iff]
 simp [bts,← Array.size_eq_zero_iff]
theorem a7a {s:SourceID} (h:SrcSm s):a4C s=some (a5j s):=by
 unfold a4C a5j
 rw [a4n _ _ _ h.n,a4n _ _ _ h.s,a4n _ _ _ h.l,a4n _ _ _ h.c,nil_iff]
 have e:(decide (s.Location.size=0) || a1e s.Location 2 2)=(a1e s.Location 0 2 && !((s.Location.size:Int) == 1)):=by
  unfold a1e
  by_cases h0:s.Location.size=0
  ·have hb:bts s.Location=[]:=by
    have:(bts s.Location).length=0:=by simpa [bts] using h0
    exact List.eq_nil_of_length_eq_zero this
   rw [hb]
   simp [h0,inB]
  ·rw [decide_eq_false h0,Bool.false_or]
   cases (bts s.Location).all (fun c=>a5B c.toNat)
   ·rfl
   ·simp only [Bool.true_and,inB]
    rw [Bool.eq_iff_iff]
    simp
    omega
 simp only [Option.bind]
 generalize a1e s.Network 1 2=a at *
 generalize a1e s.Station 1 5=b at *
 generalize a1e s.Channel 3 3=c at *
 generalize a1e s.Location 2 2=d at *
 generalize a1e s.Location 0 2=f at *
 generalize decide (s.Location.size=0)=g at *
 generalize ((s.Location.size:Int) == 1)=k at *
 revert e
 cases a <;> cases b <;> cases c <;> cases d <;> cases f <;> cases g <;> cases k <;> decide
theorem rcmpS_eq (a b:ByteArray):a0z a b=some (a6U a b):=by
 unfold a0z
 rw [b0m]
 cases Op.bytesLess a.toList b.toList
 ·cases (a.toList == b.toList) <;> simp
 ·simp
def fstV {β:Type} (f:Int→β) (z:β) (v:Int):β:=if v≠0 then f v else z
theorem orL_0 {x:Int} {r:List Int} (h:x=0):orL (x :: r)=orL r:=by simp only [orL];rw [if_neg (by omega)]
theorem orL_1 {x:Int} {r:List Int} (h:x≠0):orL (x :: r)=x:=by simp only [orL];rw [if_pos h]
theorem a9q {β:Type} (f:Int→β) (z:β) (x:Int) (r:List Int):fstV f z (orL (x :: r))=if x≠0 then f x else fstV f z (orL r):=by
 by_cases h:x=0
 ·rw [orL_0 h,if_neg (by omega)]
 ·rw [orL_1 h,if_pos h];unfold fstV;rw [if_pos h]
theorem b2J {β:Type} (f:Int→β) (z:β):fstV f z (orL [])=z:=by unfold fstV orL;rfl
theorem b2b {α:Type} {x:Int} {a r s:α} (h:r=s):(if x≠0 then a else r)=(if x≠0 then a else s):=by rw [h]
theorem b3x {β:Type} {body:Int→Option (Int ⊕ β)} (l:List Int) (f:Int→β) (z:β) (hl:l.length≤1000000)
  (h1:∀ i:Nat,(hi:i<l.length)→l[i]=0→body (i:Int)=some (.inl ((i+1:Nat):Int))) (h2:∀ i:Nat,(hi:i<l.length)→l[i]≠0→body (i:Int)=some (.inr (f l[i])))
  (h3:orL l=0→body (l.length:Int)=some (.inr z)):o5 body 0=some (fstV f z (orL l)):=by
 by_cases h0:orL l=0
 ·have h3:=h3 h0
  have key:∀ m,m≤l.length→o5 body ((l.length - m:Nat):Int)=some (fstV f z (orL (l.drop (l.length - m)))):=by
   intro m
   induction m with
   | zero=>
    intro _
    rw [I8,Nat.sub_zero,h3,List.drop_length,b2J];rfl
   | succ m ih=>
    intro hm
    have ih:=ih (by omega)
    rw [show l.length - m=l.length - (m+1)+1 by omega] at ih
    have hi:l.length - (m+1)<l.length:=by omega
    rw [I8,List.drop_eq_getElem_cons hi,a9q]
    by_cases hx:l[l.length - (m+1)]=0
    ·rw [h1 _ hi hx,if_neg (show ¬ l[l.length - (m+1)]≠0 by omega)]
     exact ih
    ·rw [h2 _ hi hx,if_pos hx];rfl
  have:=key l.length (Nat.le_refl _)
  rw [Nat.sub_self] at this
  exact this
 ·have key:∀ m,m≤l.length→orL (l.drop (l.length - m))≠0→o5 body ((l.length - m:Nat):Int)=some (fstV f z (orL (l.drop (l.length - m)))):=by
   intro m
   induction m with
   | zero=>
    intro _ hn
    rw [Nat.sub_zero,List.drop_length] at hn
    exact absurd rfl hn
   | succ m ih=>
    intro hm hn
    have ih:=ih (by omega)
    rw [show l.length - m=l.length - (m+1)+1 by omega] at ih
    have hi:l.length - (m+1)<l.length:=by omega
    rw [List.drop_eq_getElem_cons hi] at hn
    rw [I8,List.drop_eq_getElem_cons hi,a9q]
    by_cases hx:l[l.length - (m+1)]=0
    ·rw [orL_0 hx] at hn
     rw [h1 _ hi hx,if_neg (show ¬ l[l.length - (m+1)]≠0 by omega)]
     exact ih hn
    ·rw [h2 _ hi hx,if_pos hx];rfl
  have:=key l.length (Nat.le_refl _) (by rw [Nat.sub_self];exact h0)
  rw [Nat.sub_self] at this
  exact this
theorem a8n (a b:SourceID):a1K a b=some (F3 a b):=by
 unfold a1K
 simp only [rcmpS_eq,Option.bind]
 rw [b3x (l:=[a6U a.Network b.Network,a6U a.Station b.Station,a6U a.Location b.Location,a6U a.Channel b.Channel]) (f:=id) (z:=0) (by simp)]
 ·simp only [a9q,b2J,F3,andThen,Option.some.injEq,id]
  refine b2b (b2b (b2b ?_))
  split <;> omega
 ·intro i hi hx
  unfold a2r
  rw [if_pos (decide_eq_true (by simp at hi;omega)),w9 _ _ hi]
  simp only [Option.bind,hx]
  rw [G6 (by omega) (by simp at hi;omega)];rfl
 ·intro i hi hx
  unfold a2r
  rw [if_pos (decide_eq_true (by simp at hi;omega)),w9 _ _ hi]
  simp only [Option.bind]
  rw [if_pos (by simpa using hx)];rfl
 ·intro _
  unfold a2r
  rw [if_neg (by simp)];rfl
theorem a4B (n lo hi:Int):Q9 n lo hi=some (inB n lo hi):=rfl
theorem a8S (a b:Int) (ha:0≤a) (hb:0≤b):a5O a b=some (Int.gcd a b:Int):=by
 obtain ⟨m,rfl⟩:=Int.eq_ofNat_of_zero_le ha
 obtain ⟨n,rfl⟩:=Int.eq_ofNat_of_zero_le hb
 unfold a5O
 rw [b4f (body:=a8T) (fun _=>rfl)]
 rfl
theorem b0w (r:Rate):a5r r=some (a8m r):=by
 unfold a5r a8m
 simp only [a4B,Option.bind]
 by_cases h1:inB r.Num 1 4096=true
 ·by_cases h2:inB r.Den 1 4096=true
  ·have a1:=a0e.1 h1
   have a2:=a0e.1 h2
   rw [if_pos h1,h1,h2,a8S _ _ (by omega) (by omega)]
   simp only [if_true,Bool.true_and,Option.some.injEq]
   rw [Bool.eq_iff_iff];simp;omega
  ·simp only [Bool.not_eq_true] at h2
   simp [h1,h2]
 ·simp only [Bool.not_eq_true] at h1
  simp [h1]
end Go.Proofs.YteanekphncdhiaaGreat.Sh
namespace Go.Proofs.YteanekphncdhiaaGreat.Sh
open Go
set_option linter.unusedVariables false
set_option linter.unusedSimpArgs false
theorem a7U (p:Int→Bool) (f:Int→Option Bool) (hf:∀ x,f x=some (p x)) (s:List Int) (hl:s.length≤1000000000):Q3 s f=some (s.any p):=by
 have hw:U0 s f=some (if s.findIdx p<s.length then (s.findIdx p:Int) else -1):=by
  unfold U0
  have hle:=List.findIdx_le_length (xs:=s) (p:=p)
  refine a0y (fun i=>(i:Int)) (s.findIdx p) _ rfl (fun i hi=>?_) ?_
  ·have hn:=List.not_of_lt_findIdx hi
   simp only [W9]
   rw [if_pos (decide_eq_true (by omega)),w9 _ _ (by omega)]
   simp only [Option.bind,hf]
   rw [if_neg (by simpa using hn),G6 (by omega) (by omega)]
   rfl
  ·simp only [W9]
   by_cases h:s.findIdx p<s.length
   ·rw [if_pos (decide_eq_true (by omega)),w9 _ _ h]
    simp only [Option.bind,hf]
    rw [if_pos (List.findIdx_getElem (w:=h)),if_pos h]
   ·rw [if_neg (fun hh=>h (by have:=of_decide_eq_true hh;omega)),if_neg h];rfl
 unfold Q3
 rw [hw]
 simp only [Option.bind]
 by_cases h:s.findIdx p<s.length
 ·rw [if_pos h]
  have h2:=List.findIdx_getElem (xs:=s) (p:=p) (w:=h)
  have:s.any p=true:=List.any_eq_true.2 ⟨_,List.getElem_mem h,h2⟩
  rw [this,decide_eq_true (Int.natCast_nonneg _)]
 ·rw [if_neg h]
  have:s.any p=false:=by
   rw [List.any_eq_false]
   intro x hx hp
   exact h (List.findIdx_lt_length_of_exists ⟨x,hx,hp⟩)
  rw [this]
  rfl
end Go.Proofs.YteanekphncdhiaaGreat.Sh
namespace Go.Proofs.YteanekphncdhiaaGreat.Sh
open Go
set_option linter.unusedVariables false
set_option linter.unusedSimpArgs false
def a5z:List Int→Int
 | []=>0
 | x :: l=>x+a5z l
theorem b2M (a b:List Int):a5z (a ++ b)=a5z a+a5z b:=by
 induction a with
 | nil=>simp [a5z]
 | cons x a ih=>simp only [List.cons_append,a5z,ih];omega
theorem isum_bd {l:List Int} (h:∀ x∈l,-1048576≤x∧x≤1048576):-(1048576 * (l.length:Int))≤a5z l∧a5z l≤1048576 * (l.length:Int):=by
 induction l with
 | nil=>simp [a5z]
 | cons x l ih=>
  have h1:=h x (by simp)
  have h2:=ih (fun y hy=>h y (by simp [hy]))
  simp only [a5z,List.length_cons]
  push_cast
  omega
theorem a9C {l:List Int} (hl:l.length≤1000) (h:∀ x∈l,-1048576≤x∧x≤1048576):a1o l=some (a5z l):=by
 unfold a1o
 have hw:o5 (a0m l) (0,0)=some (a5z l):=by
  refine a0y (fun i=>(a5z (l.take i),(i:Int))) l.length _ (by simp [a5z]) (fun i hi=>?_) ?_
  ·have h1:=isum_bd (l:=l.take i) (fun x hx=>h x (List.mem_of_mem_take hx))
   have h2:=h _ (List.getElem_mem hi)
   rw [List.length_take] at h1
   unfold a0m
   simp only
   rw [if_pos (decide_eq_true (by omega)),w9 _ _ hi,C9 hi,b2M]
   simp only [Option.bind,a5z]
   rw [G6 (x:=a5z _+_) (by omega) (by omega),G6 (x:=(i:Int)+1) (by omega) (by omega)]
   congr 3 <;> omega
  ·unfold a0m
   simp only
   rw [if_neg (by simp),List.take_length]
 rw [hw];rfl
structure SG0 (s:Stage):Prop where
 k:s.Kind=0
 t:s.Taps=[]
 f:s.Factor=0
 h:s.Shift=0
 n0:1≤s.Num.e0
 n1:s.Num.e0≤1048576
 d0:1≤s.Den.e0
 d1:s.Den.e0≤1048576
 z:s.Num.e1=0∧s.Num.e2=0∧s.Den.e1=0∧s.Den.e2=0
structure SG1 (s:Stage):Prop where
 k:s.Kind=1
 t:s.Taps=[]
 f:s.Factor=0
 h:s.Shift=0
 a0:-1048576≤s.Num.e0∧s.Num.e0≤1048576
 a1:-1048576≤s.Num.e1∧s.Num.e1≤1048576
 a2:-1048576≤s.Num.e2∧s.Num.e2≤1048576
 b0:-1048576≤s.Den.e0∧s.Den.e0≤1048576
 b1:-1048576≤s.Den.e1∧s.Den.e1≤1048576
 b2:-1048576≤s.Den.e2∧s.Den.e2≤1048576
 ne:s.Den.e0≠0
structure SG2 (s:Stage):Prop where
 k:s.Kind=2
 num:s.Num=⟨0,0,0⟩
 den:s.Den=⟨0,0,0⟩
 l0:1≤s.Taps.length
 l1:s.Taps.length≤128
 tap:∀ x∈s.Taps,-1048576≤x∧x≤1048576
 ne:a5z s.Taps≠0
 f0:1≤s.Factor
 f1:s.Factor≤64
 s0:0≤s.Shift
 s1:s.Shift≤40
def SG (s:Stage):Prop:=SG0 s∨SG1 s∨SG2 s
theorem a8z {l:List Int} (hl:l.length≤1000) (h:∀ x∈l,-1048576≤x∧x≤1048576):V3 l=some true:=by
 unfold V3
 rw [a7U (fun x=>!((decide (-1048576≤x)) && (decide (x≤1048576)))) a0b (fun x=>rfl) l (by omega)]
 have:(l.any fun x=>!((decide (-1048576≤x)) && (decide (x≤1048576))))=false:=by
  rw [List.any_eq_false]
  intro x hx
  have:=h x hx
  simp [this.1,this.2]
 rw [this];rfl
theorem three {P:Int→Prop} {a b c:Int} (ha:P a) (hb:P b) (hc:P c):∀ x∈[a,b,c],P x:=by
 intro x hx
 rcases (by simpa using hx:x=a∨x=b∨x=c) with rfl | rfl | rfl
 ·exact ha
 ·exact hb
 ·exact hc
theorem a7n {n lo hi:Int} (h0:lo≤n) (h1:n≤hi):Y4 n lo hi=some true:=by
 unfold Y4;rw [decide_eq_true h0,decide_eq_true h1];rfl
theorem b3f {s:Stage} (h:SG s):O4 s=some true:=by
 unfold O4
 rcases h with h | h | h
 ·obtain ⟨z1,z2,z3,z4⟩:=h.z
  rw [if_pos (by rw [h.k];rfl),h.t,h.f,h.h,z1,z2,z3,z4,a7n h.n0 h.n1,a7n h.d0 h.d1]
  simp
 ·rw [if_neg (by rw [h.k];decide),if_pos (by rw [h.k];rfl),h.t,h.f,h.h,
   a8z (l:=[s.Num.e0,s.Num.e1,s.Num.e2]) (by simp) (three h.a0 h.a1 h.a2),
   a8z (l:=[s.Den.e0,s.Den.e1,s.Den.e2]) (by simp) (three h.b0 h.b1 h.b2)]
  have:=h.ne
  simp [this]
 ·have l1:=h.l1
  rw [if_neg (by rw [h.k];decide),if_neg (by rw [h.k];decide),if_pos (by rw [h.k];rfl),h.num,h.den,a7n (n:=(s.Taps.length:Int)) (by have:=h.l0;omega) (by omega),a8z (by omega) h.tap,a9C (by omega) h.tap,
   a7n h.f0 h.f1,a7n h.s0 h.s1]
  have:=h.ne
  simp [this]
def a3s (s:Stage):Int:=if s.Kind=2 then s.Factor else 1
def fac:List Stage→Int
 | []=>1
 | s :: l=>a3s s * fac l
theorem a4W (a b:List Stage):fac (a ++ b)=fac a * fac b:=by
 induction a with
 | nil=>simp [fac]
 | cons s a ih=>simp only [List.cons_append,fac,ih,Int.mul_assoc]
theorem b0b {s:Stage} (h:SG s):1≤a3s s∧a3s s≤64:=by
 unfold a3s
 rcases h with h | h | h
 ·rw [if_neg (by rw [h.k];decide)];decide
 ·rw [if_neg (by rw [h.k];decide)];decide
 ·rw [if_pos h.k];exact ⟨h.f0,h.f1⟩
theorem a7z {l:List Stage} (h:∀ s∈l,SG s):1≤fac l:=by
 induction l with
 | nil=>simp [fac]
 | cons s l ih=>
  have h1:=b0b (h s (by simp))
  have h2:=ih (fun x hx=>h x (by simp [hx]))
  have:=Int.mul_le_mul h1.1 h2 (by decide) (by omega)
  simp only [fac];omega
theorem b2H {l:List Stage} (hl:l.length≤100000) (h:∀ s∈l,SG s):a2X l=some (if fac l≤64 then fac l else 0):=by
 unfold a2X
 obtain ⟨r,e,hr⟩:=R3 (b1:=a0a l) (fun q s=>∃ i:Nat,s=(fac (l.take i),(i:Int))∧q+i=l.length∧fac (l.take i)≤64) (fun r=>r=if fac l≤64 then fac l else 0)
  (fun q s ⟨i,es,hq,hf⟩=>by
   subst es
   by_cases hi:i<l.length
   ·have hs:=h _ (List.getElem_mem hi)
    have hb:=b0b hs
    have hp:=a7z (l:=l.take i) (fun x hx=>h x (List.mem_of_mem_take hx))
    have ht:fac (l.take (i+1))=fac (l.take i) * a3s l[i]:=by rw [C9 hi,a4W];simp [fac]
    have hm:fac (l.take i) * a3s l[i]≤64 * 64:=Int.mul_le_mul hf hb.2 (by omega) (by decide)
    have hm0:1 * 1≤fac (l.take i) * a3s l[i]:=Int.mul_le_mul hp hb.1 (by decide) (by omega)
    by_cases hle:fac (l.take (i+1))≤64
    ·left
     refine ⟨_,q - 1,?_,⟨i+1,rfl,by omega,hle⟩,by omega⟩
     unfold a0a
     simp only
     rw [if_pos (decide_eq_true (by omega)),w9 _ _ hi]
     simp only [Option.bind]
     by_cases hk:l[i].Kind=2
     ·have hf1:a3s l[i]=l[i].Factor:=by unfold a3s;rw [if_pos hk]
      rw [hf1] at ht hm hm0
      rw [if_neg (by simp [hk]),G6 (by omega) (by omega)]
      rw [if_neg (by simp;omega)]
      unfold Y9
      simp only
      rw [ht,G6 (by omega) (by omega)];rfl
     ·have hf1:a3s l[i]=1:=by unfold a3s;rw [if_neg hk]
      rw [hf1,Int.mul_one] at ht
      rw [if_pos (by simpa using hk)]
      unfold Y9
      simp only
      rw [ht,G6 (by omega) (by omega)];rfl
    ·right
     have hk:l[i].Kind=2:=by
      refine Classical.byContradiction fun hk=>?_
      have hf1:a3s l[i]=1:=by unfold a3s;rw [if_neg hk]
      rw [hf1,Int.mul_one] at ht
      omega
     have hf1:a3s l[i]=l[i].Factor:=by unfold a3s;rw [if_pos hk]
     refine ⟨0,?_,?_⟩
     ·unfold a0a
      simp only
      rw [if_pos (decide_eq_true (by omega)),w9 _ _ hi]
      simp only [Option.bind]
      rw [hf1] at ht hm hm0
      rw [if_neg (by simp [hk]),G6 (by omega) (by omega)]
      rw [if_pos (decide_eq_true (by omega))]
     ·have hsp:fac l=fac (l.take (i+1)) * fac (l.drop (i+1)):=by rw [← a4W,List.take_append_drop]
      have hd:=a7z (l:=l.drop (i+1)) (fun x hx=>h x (List.mem_of_mem_drop hx))
      have:=Int.mul_le_mul_of_nonneg_left hd (show 0≤fac (l.take (i+1)) by omega)
      rw [if_neg (by omega)]
   ·right
    have ht:l.take i=l:=List.take_of_length_le (by omega)
    rw [ht] at hf ⊢
    refine ⟨fac l,?_,by rw [if_pos hf]⟩
    unfold a0a
    simp only
    rw [if_neg (by simp;omega)];rfl) l.length (1,0) ⟨0,rfl,rfl,by simp [fac]⟩
 rw [e,hr]
theorem a9X (f:Stage→Option Bool) (l:List Stage) (hl:l.length≤1000000) (h:∀ s∈l,f s=some false):A7 l f=some false:=by
 unfold A7 K8
 have hw:o5 (D7 l f) 0=some (-1):=by
  refine a0y (fun i=>(i:Int)) l.length _ rfl (fun i hi=>?_) ?_
  ·unfold D7
   rw [if_pos (decide_eq_true (by omega)),w9 _ _ hi]
   simp only [Option.bind,h _ (List.getElem_mem hi),Bool.false_eq_true,if_false]
   rw [G6 (by omega) (by omega)];rfl
  ·unfold D7
   rw [if_neg (by simp)];rfl
 rw [hw];rfl
theorem b3b {l:List Stage} (hl:l.length≤100000) (h:∀ s∈l,SG s):U9 ⟨l⟩=some (decide (l.length≤8∧fac l≤64)):=by
 unfold U9
 have hp:=a7z h
 have hc:A7 l O8=some false:=a9X _ _ (by omega) fun s hs=>by
  unfold O8;rw [b3f (h s hs)];rfl
 simp only
 rw [hc,b2H hl h]
 by_cases h8:l.length≤8
 ·rw [decide_eq_false (show ¬ (8:Int)<(l.length:Int) by omega)]
  simp only [Bool.false_eq_true,if_false,Option.bind]
  by_cases h6:fac l≤64
  ·rw [if_pos h6,decide_eq_true (show 0<fac l by omega),decide_eq_true ⟨h8,h6⟩]
  ·rw [if_neg h6,decide_eq_false (show ¬ (l.length≤8∧fac l≤64) by omega)];rfl
 ·rw [decide_eq_true (show (8:Int)<(l.length:Int) by omega),decide_eq_false (show ¬ (l.length≤8∧fac l≤64) by omega)];rfl
theorem b1C (n lo hi:Int):Y4 n lo hi=some (inB n lo hi):=rfl
theorem a9w (n lo hi:Int):Q9 n lo hi=some (inB n lo hi):=rfl
def tB (x:Int):Bool:=inB x (-1048576) 1048576
theorem b0R {l:List Int} (hl:l.length≤1000000):V3 l=some (l.all tB):=by
 unfold V3
 rw [a7U (fun x=>!tB x) a0b (fun x=>rfl) l (by omega),List.all_eq_not_any_not]
 rfl
theorem a9D {l:List Int} (hl:l.length≤1000000):a3p l=some (l.all tB):=by
 unfold a3p
 have step:∀ i:Nat,(hi:i<l.length)→a2f l (i:Int)=some (if tB l[i]=true then .inl ((i+1:Nat):Int) else .inr false):=fun i hi=>by
  unfold a2f
  rw [if_pos (decide_eq_true (by omega)),w9 _ _ hi]
  simp only [Option.bind,a9w]
  have e:inB l[i] (-1048576) 1048576=tB l[i]:=rfl
  rw [e]
  cases tB l[i] with
  | true=>simp only [Bool.not_true,Bool.false_eq_true,if_false,if_true];rw [G6 (by omega) (by omega)];rfl
  | false=>rfl
 have h:=a8J (body:=a2f l) l.length (fun i=>if h:i<l.length then tB l[i] else true) false true
  (fun i hi hp=>by rw [step i hi];simp only [hi,dif_pos] at hp;rw [hp];rfl)
  (fun i hi hp=>by rw [step i hi];simp only [hi,dif_pos] at hp;rw [hp];rfl)
  (by unfold a2f;rw [if_neg (by simp)];rfl)
 rw [h,a9t l tB _ (fun i hi=>by simp [hi])]
 cases l.all tB <;> rfl
theorem total_eq (l:List Int):a7b l=a1o l:=rfl
theorem sum_ex {l:List Int} (hl:l.length≤1000000):∃ v,a1o l=some v:=by
 obtain ⟨r,e,_⟩:=R3 (b1:=a0m l) (fun k s=>∃ i:Nat,s.2=(i:Int)∧k+i=l.length) (fun _=>True) (fun k s ⟨i,hi,hk⟩=>by
  obtain ⟨n,j⟩:=s
  simp only at hi
  subst hi
  unfold a0m
  by_cases h:i<l.length
  ·left
   refine ⟨(w64 (n+l[i]),((i+1:Nat):Int)),k - 1,?_,⟨i+1,rfl,by omega⟩,by omega⟩
   simp only
   rw [if_pos (decide_eq_true (by omega)),w9 _ _ h]
   simp only [Option.bind]
   rw [G6 (x:=(i:Int)+1) (by omega) (by omega)];rfl
  ·right
   refine ⟨n,?_,trivial⟩
   simp only
   rw [if_neg (by simp;omega)]) l.length (0,0) ⟨0,rfl,rfl⟩
 exact ⟨r,by unfold a1o;rw [e];rfl⟩
theorem iteB (c x:Bool):(if c=true then some x else some false)=some (c && x):=by cases c <;> rfl
theorem all3 (a b c:Int):[a,b,c].all tB=(tB a && (tB b && tB c)):=by simp
theorem tB_iff {x:Int}:tB x=true↔-1048576≤x∧x≤1048576:=a0e
theorem len0 {l:List Int}:((l.length:Int) == 0)=true↔l=[]:=by
 rw [beq_iff_eq,← List.length_eq_zero_iff];omega
theorem vst {s:Stage} (hl:s.Taps.length≤1000):∃ b,O4 s=some b∧Y6 s=some b∧(b=true↔SG s):=by
 obtain ⟨v,hv⟩:=sum_ex (l:=s.Taps) (by omega)
 unfold O4 Y6
 simp only [b1C,a9w,b0R (l:=s.Taps) (by omega),a9D (l:=s.Taps) (by omega),b0R (l:=[s.Num.e0,s.Num.e1,s.Num.e2]) (by simp),b0R (l:=[s.Den.e0,s.Den.e1,s.Den.e2]) (by simp),a9D (l:=[s.Num.e0,s.Num.e1,s.Num.e2]) (by simp),a9D (l:=[s.Den.e0,s.Den.e1,s.Den.e2]) (by simp),total_eq,hv,Option.bind_some,iteB,all3]
 by_cases k0:s.Kind=0
 ·have e0:(s.Kind == 0)=true:=by simpa using k0
  simp only [e0,if_true]
  refine ⟨_,rfl,?_,?_⟩
  ·congr 1
   rw [Bool.eq_iff_iff]
   simp only [Bool.and_eq_true,beq_iff_eq,a0e]
   constructor <;> (intro h;simp_all)
  ·simp only [Bool.and_eq_true,beq_iff_eq,a0e,and_true]
   constructor
   ·intro h
    exact .inl ⟨k0,List.eq_nil_of_length_eq_zero (by omega),by omega,by omega,by omega,by omega,by omega,by omega,by omega⟩
   ·rintro (h | h | h)
    ·have h1:=h.t;have h2:=h.f;have h3:=h.h;have h4:=h.n0;have h5:=h.n1;have h6:=h.d0;have h7:=h.d1;have h8:=h.z
     simp_all
    ·have:=h.k;omega
    ·have:=h.k;omega
 ·have e0:(s.Kind == 0)=false:=by simpa using k0
  by_cases k1:s.Kind=1
  ·have e1:(s.Kind == 1)=true:=by simpa using k1
   simp only [e0,e1,if_true,Bool.false_eq_true,if_false]
   refine ⟨_,rfl,rfl,?_⟩
   simp only [Bool.and_eq_true,beq_iff_eq,bne_iff_ne,tB_iff]
   constructor
   ·intro h
    exact .inr (.inl ⟨k1,List.eq_nil_of_length_eq_zero (by omega),by omega,by omega,by omega,by omega,by omega,by omega,by omega,by omega,by omega⟩)
   ·rintro (h | h | h)
    ·have:=h.k;omega
    ·have h1:=h.t;have h2:=h.f;have h3:=h.h;have h4:=h.a0;have h5:=h.a1;have h6:=h.a2;have h7:=h.b0;have h8:=h.b1;have h9:=h.b2;have h10:=h.ne
     simp_all
    ·have:=h.k;omega
  ·have e1:(s.Kind == 1)=false:=by simpa using k1
   by_cases k2:s.Kind=2
   ·have e2:(s.Kind == 2)=true:=by simpa using k2
    simp only [e0,e1,e2,if_true,Bool.false_eq_true,if_false,Bool.true_and]
    refine ⟨_,rfl,rfl,?_⟩
    simp only [Bool.and_eq_true,beq_iff_eq,bne_iff_ne,a0e,and_true,List.all_eq_true,tB_iff]
    constructor
    ·intro h
     obtain ⟨⟨⟨⟨⟨⟨h1,h2⟩,h3⟩,h4⟩,h5⟩,h6⟩,h7⟩:=h
     rw [a9C (by omega) h4] at hv
     have hv:=Option.some.inj hv
     subst hv
     obtain ⟨K,⟨n0,n1,n2⟩,⟨d0,d1,d2⟩,T,F,H⟩:=s
     simp only at h1 h2 h3 h4 h5 h6 h7
     obtain ⟨rfl,rfl,rfl⟩:=h1
     obtain ⟨rfl,rfl,rfl⟩:=h2
     exact .inr (.inr ⟨k2,rfl,rfl,by simp only;omega,by simp only;omega,h4,h5,h6.1,h6.2,h7.1,h7.2⟩)
    ·rintro (h | h | h)
     ·have:=h.k;omega
     ·have:=h.k;omega
     ·have l1:=h.l1
      rw [a9C (by omega) h.tap] at hv
      have hv:=Option.some.inj hv
      subst hv
      have l0:=h.l0
      refine ⟨⟨⟨⟨⟨⟨?_,?_⟩,?_⟩,h.tap⟩,h.ne⟩,h.f0,h.f1⟩,h.s0,h.s1⟩
      ·rw [h.num];simp
      ·rw [h.den];simp
      ·omega
   ·have e2:(s.Kind == 2)=false:=by simpa using k2
    simp only [e0,e1,e2,Bool.false_eq_true,if_false,Bool.false_and]
    refine ⟨_,rfl,rfl,?_⟩
    constructor
    ·intro h;cases h
    ·rintro (h | h | h)
     ·have:=h.k;omega
     ·have:=h.k;omega
     ·have:=h.k;omega
theorem vstA (s:Stage):∃ b,O4 s=some b∧Y6 s=some b∧(b=true↔SG s):=by
 by_cases hl:s.Taps.length≤1000
 ·exact vst hl
 have h0:((s.Taps.length:Int) == 0)=false:=by simp;intro h;rw [h] at hl;simp at hl
 have hn:s.Taps≠[]:=fun h=>by rw [h] at hl;simp at hl
 have hr:inB (s.Taps.length:Int) 1 128=false:=by
  cases hh:inB (s.Taps.length:Int) 1 128 with
  | false=>rfl
  | true=>have:=a0e.1 hh;omega
 refine ⟨false,?_,?_,fun h=>(by cases h),fun h=>?_⟩
 ·unfold O4
  by_cases k0:s.Kind=0
  ·rw [if_pos (by simpa using k0)];simp [h0]
  ·rw [if_neg (by simpa using k0)]
   by_cases k1:s.Kind=1
   ·rw [if_pos (by simpa using k1)];simp [h0]
   ·rw [if_neg (by simpa using k1)]
    by_cases k2:s.Kind=2
    ·rw [if_pos (by simpa using k2)];simp [b1C,hr]
    ·rw [if_neg (by simpa using k2)]
 ·unfold Y6
  simp [h0,a9w,hr]
 ·rcases h with h | h | h
  ·exact absurd h.t hn
  ·exact absurd h.t hn
  ·have:=h.l1;omega
theorem b2k (f:Stage→Option Bool) (l:List Stage) (hl:l.length≤1000000) (h:∀ s∈l,∃ b,f s=some b):∃ c,A7 l f=some c∧(c=true↔∃ s∈l,f s=some true):=by
 unfold A7 K8
 obtain ⟨r,e,hr⟩:=R3 (b1:=D7 l f) (fun k s=>∃ i:Nat,s=(i:Int)∧k+i=l.length∧∀ x∈l.take i,f x=some false)
  (fun r=>(0≤r∧∃ s∈l,f s=some true)∨(r=-1∧∀ s∈l,f s=some false)) (fun k s ⟨i,hi,hk,hall⟩=>by
  subst hi
  unfold D7
  by_cases hil:i<l.length
  ·obtain ⟨b,hb⟩:=h _ (List.getElem_mem hil)
   rw [if_pos (decide_eq_true (by omega)),w9 _ _ hil]
   simp only [Option.bind,hb]
   cases b with
   | true=>exact .inr ⟨_,rfl,.inl ⟨by omega,_,List.getElem_mem hil,hb⟩⟩
   | false=>
    refine .inl ⟨((i+1:Nat):Int),k - 1,?_,⟨i+1,rfl,by omega,fun x hx=>?_⟩,by omega⟩
    ·simp only [Bool.false_eq_true,if_false];rw [G6 (by omega) (by omega)];rfl
    ·rw [C9 hil] at hx
     rcases List.mem_append.1 hx with hx | hx
     ·exact hall x hx
     ·rcases List.mem_singleton.1 hx with rfl;exact hb
  ·rw [if_neg (by simp;omega)]
   rw [List.take_of_length_le (by omega)] at hall
   exact .inr ⟨_,rfl,.inr ⟨rfl,hall⟩⟩) l.length 0 ⟨0,rfl,rfl,by simp⟩
 rw [e]
 refine ⟨decide (0≤r),rfl,?_⟩
 rcases hr with ⟨h0,hs⟩ | ⟨rfl,hs⟩
 ·exact ⟨fun _=>hs,fun _=>decide_eq_true h0⟩
 ·refine ⟨fun h=>by simp at h,fun ⟨s,hm,hf⟩=>?_⟩
  rw [hs s hm] at hf;cases hf
def RP (l:List Stage):Prop:=(∀ s∈l,SG s)∧l.length≤8∧fac l≤64
theorem cvalid {l:List Stage} (hl:l.length≤1000):∃ b,U9 ⟨l⟩=some b∧(b=true↔RP l):=by
 by_cases hs:∀ s∈l,SG s
 ·refine ⟨_,b3b (by omega) hs,?_⟩
  rw [decide_eq_true_iff]
  exact ⟨fun h=>⟨hs,h⟩,fun h=>h.2⟩
 ·unfold U9
  have hn:¬ RP l:=fun h=>hs h.1
  by_cases h8:(8:Int)<(l.length:Int)
  ·refine ⟨false,?_,⟨fun h=>(by cases h),fun h=>absurd h hn⟩⟩
   simp only
   rw [decide_eq_true h8];rfl
  ·obtain ⟨c,hc,hi⟩:=b2k O8 l (by omega) (fun s hm=>by
    obtain ⟨b,h1,_⟩:=vstA s
    exact ⟨!b,by unfold O8;rw [h1];rfl⟩)
   have hct:c=true:=by
    refine hi.2 (Classical.byContradiction fun hh=>hs fun s hm=>?_)
    obtain ⟨b,h1,_,h3⟩:=vstA s
    refine h3.1 ?_
    cases b with
    | true=>rfl
    | false=>exact absurd ⟨s,hm,by unfold O8;rw [h1];rfl⟩ hh
   refine ⟨false,?_,⟨fun h=>(by cases h),fun h=>absurd h hn⟩⟩
   simp only
   rw [decide_eq_false h8,hc,hct];rfl
theorem rvalid {l:List Stage} (hl:l.length≤1000):∃ b,a3o ⟨l⟩=some b∧(b=true↔RP l):=by
 unfold a3o
 obtain ⟨r,e,hr⟩:=R3 (b1:=a5d ⟨l⟩) (fun k s=>∃ i:Nat,s=(fac (l.take i),(i:Int))∧k+i=l.length∧(∀ x∈l.take i,SG x)∧fac (l.take i)≤64) (fun r=>r=true↔RP l) (fun k s ⟨i,es,hk,hsg,hf⟩=>by
  subst es
  unfold a5d
  simp only
  by_cases hil:i<l.length
  ·rw [if_pos (decide_eq_true (by omega)),w9 _ _ hil]
   obtain ⟨b,_,hb,h3⟩:=vstA l[i]
   simp only [Option.bind,hb]
   cases b with
   | false=>
    refine .inr ⟨false,rfl,⟨fun h=>(by cases h),fun h=>?_⟩⟩
    exact h3.2 (h.1 _ (List.getElem_mem hil))
   | true=>
    have hs:=h3.1 rfl
    have hb:=b0b hs
    have hp:=a7z hsg
    have hall:∀ x∈l.take (i+1),SG x:=fun x hx=>by
     rw [C9 hil] at hx
     rcases List.mem_append.1 hx with hx | hx
     ·exact hsg x hx
     ·rcases List.mem_singleton.1 hx with rfl;exact hs
    have hft:fac (l.take (i+1))=fac (l.take i) * a3s l[i]:=by rw [C9 hil,a4W];simp [fac]
    have hm:fac (l.take i) * a3s l[i]≤64 * 64:=Int.mul_le_mul hf hb.2 (by omega) (by decide)
    have hm0:1 * 1≤fac (l.take i) * a3s l[i]:=Int.mul_le_mul hp hb.1 (by decide) (by omega)
    simp only [Bool.not_true,Bool.false_eq_true,if_false]
    by_cases k2:l[i].Kind=2
    ·have hf1:a3s l[i]=l[i].Factor:=by unfold a3s;rw [if_pos k2]
     rw [hf1] at hft hm hm0
     rw [if_pos (by simpa using k2),G6 (by omega) (by omega)]
     by_cases h6:64<fac (l.take i) * l[i].Factor
     ·rw [if_pos (decide_eq_true h6)]
      refine .inr ⟨false,rfl,⟨fun h=>(by cases h),fun h=>?_⟩⟩
      have hsp:fac l=fac (l.take (i+1)) * fac (l.drop (i+1)):=by rw [← a4W,List.take_append_drop]
      have hd:=a7z (l:=l.drop (i+1)) (fun x hx=>h.1 x (List.mem_of_mem_drop hx))
      have:=Int.mul_le_mul_of_nonneg_left hd (show 0≤fac (l.take (i+1)) by omega)
      have:=h.2.2
      omega
     ·rw [if_neg (by simp;omega)]
      refine .inl ⟨_,k - 1,?_,⟨i+1,rfl,by omega,hall,by omega⟩,by omega⟩
      unfold a2e
      simp only [Option.bind]
      rw [G6 (by omega) (by omega),hft];rfl
    ·have hf1:a3s l[i]=1:=by unfold a3s;rw [if_neg k2]
     rw [hf1,Int.mul_one] at hft
     rw [if_neg (by simpa using k2)]
     refine .inl ⟨_,k - 1,?_,⟨i+1,rfl,by omega,hall,by omega⟩,by omega⟩
     unfold a2e
     simp only [Option.bind]
     rw [G6 (by omega) (by omega),hft];rfl
  ·have ht:l.take i=l:=List.take_of_length_le (by omega)
   rw [ht] at hsg hf
   rw [if_neg (by simp;omega)]
   refine .inr ⟨_,rfl,?_⟩
   rw [decide_eq_true_iff]
   exact ⟨fun h=>⟨hsg,by omega,hf⟩,fun h=>by have:=h.2.1;omega⟩) l.length (1,0) ⟨0,rfl,rfl,by simp,by simp [fac]⟩
 exact ⟨r,e,hr⟩
theorem vresp {l:List Stage} (hl:l.length≤1000):∃ b,U9 ⟨l⟩=some b∧a3o ⟨l⟩=some b∧(b=true↔RP l):=by
 obtain ⟨b,h1,h2⟩:=cvalid hl
 obtain ⟨c,h3,h4⟩:=rvalid hl
 have:b=c:=by rw [Bool.eq_iff_iff,h2,h4]
 subst this
 exact ⟨b,h1,h3,h2⟩
end Go.Proofs.YteanekphncdhiaaGreat.Sh
namespace Go.Proofs.YteanekphncdhiaaGreat.Sh
open Go
set_option linter.unusedVariables false
set_option linter.unusedSimpArgs false
theorem a6c {α β:Type} (l:List α) {body:Int→Option (Int ⊕ β)} (P:α→Prop) (R:α→α→Prop) (r0 r1:β) (hl:l.length≤1000000) (hR:∀ a b c,P b→R a b→R b c→R a c)
  (hb:∀ i (hi:i<l.length),∃ b:Bool,(b=true↔P l[i]∧∀ h:0<i,R (l[i - 1]'(by omega)) l[i])∧body (i:Int)=if b=true then some (.inl ((i+1:Nat):Int)) else some (.inr r0)) (he:body (l.length:Int)=some (.inr r1)) :
  ∃ b:Bool,(b=true↔(∀ x∈l,P x)∧l.Pairwise R)∧o5 body 0=some (if b=true then r1 else r0):=by
 obtain ⟨r,e,b,h1,h2⟩:=R3 (b1:=body) (fun k s=>∃ i:Nat,s=(i:Int)∧k+i=l.length∧(∀ x∈l.take i,P x)∧(l.take i).Pairwise R) (fun r=>∃ b:Bool,(b=true↔(∀ x∈l,P x)∧l.Pairwise R)∧r=if b=true then r1 else r0) (fun k s ⟨i,es,hk,hP,hp⟩=>by
  subst es
  by_cases hil:i<l.length
  ·obtain ⟨b,hb1,hb2⟩:=hb i hil
   rw [hb2]
   cases b with
   | true=>
    obtain ⟨g1,g2⟩:=hb1.1 rfl
    refine .inl ⟨_,k - 1,rfl,⟨i+1,rfl,by omega,fun x hx=>?_,?_⟩,by omega⟩
    ·rw [C9 hil] at hx
     rcases List.mem_append.1 hx with hx | hx
     ·exact hP x hx
     ·rcases List.mem_singleton.1 hx with rfl;exact g1
    ·rw [C9 hil,List.pairwise_append]
     refine ⟨hp,List.pairwise_singleton _ _,fun a ha c hc=>?_⟩
     rcases List.mem_singleton.1 hc with rfl
     obtain ⟨j,hj,rfl⟩:=List.mem_iff_getElem.1 ha
     have hj':j<i:=by simp at hj;omega
     have g2:=g2 (by omega)
     rw [List.getElem_take]
     by_cases hji:j=i - 1
     ·subst hji;exact g2
     ·refine hR _ _ _ (hP _ ?_) ?_ g2
      ·rw [List.mem_take_iff_getElem];exact ⟨i - 1,by omega,rfl⟩
      ·have:=List.pairwise_iff_getElem.1 hp j (i - 1) (by simp;omega) (by simp;omega) (by omega)
       simpa [List.getElem_take] using this
   | false=>
    refine .inr ⟨r0,rfl,false,⟨fun h=>(by cases h),fun h=>?_⟩,rfl⟩
    refine hb1.2 ⟨h.1 _ (List.getElem_mem hil),fun h0=>?_⟩
    exact List.pairwise_iff_getElem.1 h.2 (i - 1) i (by omega) hil (by omega)
  ·have hi:i=l.length:=by omega
   subst hi
   rw [he]
   rw [List.take_length] at hP hp
   exact .inr ⟨r1,rfl,true,⟨fun _=>⟨hP,hp⟩,fun _=>rfl⟩,rfl⟩) l.length 0 ⟨0,rfl,by omega,by simp,by simp⟩
 exact ⟨b,h1,by rw [e,h2]⟩
theorem M6 {i:Nat} (h:i≤1000000000000000000):w64 ((i:Int)+1)=((i+1:Nat):Int):=by rw [G6 (by omega) (by omega)];rfl
def EF (e:Epoch):Prop:=e.Response.Stages.length≤1000∧∀ s∈e.Response.Stages,s.Taps.length≤1000000000000000
def CE (e:Epoch):Prop:=e.Response.Stages.length≤1000∧∀ s∈e.Response.Stages,s.Taps.length≤1000
structure VE (e:Epoch):Prop where
 f0:0≤e.From
 ft:e.From<e.To
 t1:e.To≤9007199254740992
 r:RV e.Rate
 s:RP e.Response.Stages
 x:-1048576≤e.Position.X∧e.Position.X≤1048576
 y:-1048576≤e.Position.Y∧e.Position.Y≤1048576
 z:-16384≤e.Position.Z∧e.Position.Z≤1048576
theorem SG.taps {s:Stage} (h:SG s):s.Taps.length≤128:=by
 rcases h with h | h | h
 ·rw [h.t];simp
 ·rw [h.t];simp
 ·exact h.l1
theorem RP.ce {e:Epoch} (h:RP e.Response.Stages):CE e:=⟨by have:=h.2.1;omega,fun s hs=>by have:=(h.1 s hs).taps;omega⟩
theorem VE.ce {e:Epoch} (h:VE e):CE e:=h.s.ce
theorem CE.ef {e:Epoch} (h:CE e):EF e:=⟨h.1,fun s hs=>by have:=h.2 s hs;omega⟩
def noEp:Epoch:=⟨0,0,⟨0,0⟩,⟨0,0,0⟩,⟨[]⟩⟩
theorem noEp_ce:CE noEp:=⟨by simp [noEp],by simp [noEp]⟩
theorem iteT (c:Bool) (x:Bool):(if c=true then some x else some false)=some (c && x):=by cases c <;> rfl
theorem b2q {e:Epoch} (h:e.Response.Stages.length≤1000):∃ b,Q7 e=some b∧a0S e=some b∧(b=true↔VE e):=by
 obtain ⟨v,v1,v2,v3⟩:=vresp h
 refine ⟨((((((decide (0≤e.From)) && (decide (e.From<e.To))) && (decide (e.To≤9007199254740992))) && a8m e.Rate) && v) && inB e.Position.X (-1048576) 1048576) && inB e.Position.Y (-1048576) 1048576 && inB e.Position.Z (-16384) 1048576,?_,?_,?_⟩
 ·unfold Q7
  rw [b1f,show U9 e.Response=some v from v1]
  simp only [show ∀ n lo hi,a2o n lo hi=some (inB n lo hi) from fun _ _ _=>rfl,Option.bind_some,iteT]
 ·unfold a0S
  rw [b0w,show a3o e.Response=some v from v2]
  simp only [a4B,Option.bind_some,iteT]
 ·simp only [Bool.and_eq_true,decide_eq_true_eq,a0e,b3F,v3]
  constructor
  ·rintro ⟨⟨⟨⟨⟨⟨⟨h1,h2⟩,h3⟩,h4⟩,h5⟩,h6⟩,h7⟩,h8⟩;exact ⟨h1,h2,h3,h4,h5,h6,h7,h8⟩
  ·intro h;exact ⟨⟨⟨⟨⟨⟨⟨h.f0,h.ft⟩,h.t1⟩,h.r⟩,h.s⟩,h.x⟩,h.y⟩,h.z⟩
def bef (a b:Epoch):Prop:=a.To≤b.From
theorem bef_tr (a b c:Epoch) (hb:VE b) (h1:bef a b) (h2:bef b c):bef a c:=by have:=hb.ft;unfold bef at *;omega
structure VEs (l:List Epoch):Prop where
 v:∀ e∈l,VE e
 p:l.Pairwise bef
 ne:l≠[]
theorem b4I {l:List Epoch} (hl:l.length≤1000000) (hf:∀ e∈l,EF e):∃ b,a4e l=some b∧(b=true↔VEs l∧l.length≤32):=by
 obtain ⟨b,h1,h2⟩:=a6c l (body:=a0G l) VE bef false (inB (l.length:Int) 1 32) hl (fun a b c h=>bef_tr a b c h) (fun i hi=>by
  obtain ⟨v,v1,_,v3⟩:=b2q (hf _ (List.getElem_mem hi)).1
  unfold a0G
  rw [if_pos (decide_eq_true (by omega)),w9 _ _ hi]
  simp only [Option.bind_some,v1]
  cases v with
  | false=>exact ⟨false,⟨fun h=>(by cases h),fun h=>v3.2 h.1⟩,by simp⟩
  | true=>
   have hv:=v3.1 rfl
   by_cases h0:0<i
   ·refine ⟨decide (l[i - 1].To≤l[i].From),?_,?_⟩
    ·rw [decide_eq_true_iff];exact ⟨fun h=>⟨hv,fun _=>h⟩,fun h=>h.2 h0⟩
    ·rw [show decide ((0:Int)<(i:Int))=true from decide_eq_true (by omega),G6 (by omega) (by omega),show (i:Int) - 1=((i - 1:Nat):Int) by omega,w9 _ _ (by omega:i - 1<l.length),M6 (by omega)]
     simp only [Bool.not_true,Bool.false_eq_true,if_false,if_true,Option.bind_some]
     by_cases hh:l[i].From<l[i - 1].To
     ·rw [decide_eq_true hh,decide_eq_false (show ¬ l[i - 1].To≤l[i].From by omega)];simp
     ·rw [decide_eq_false hh,decide_eq_true (show l[i - 1].To≤l[i].From by omega)];simp
   ·refine ⟨true,⟨fun _=>⟨hv,fun h=>absurd h h0⟩,fun _=>rfl⟩,?_⟩
    rw [show decide ((0:Int)<(i:Int))=false from decide_eq_false (by omega),M6 (by omega)]
    simp) (by
  unfold a0G
  rw [if_neg (by simp)];rfl)
 refine ⟨_,h2,?_⟩
 have hin:inB (l.length:Int) 1 32=true↔l≠[]∧l.length≤32:=by
  rw [a0e]
  cases l with
  | nil=>simp
  | cons=>simp;omega
 cases b with
 | true=>
  obtain ⟨g1,g2⟩:=h1.1 rfl
  rw [if_pos rfl,hin]
  exact ⟨fun h=>⟨⟨g1,g2,h.1⟩,h.2⟩,fun h=>⟨h.1.ne,h.2⟩⟩
 | false=>exact ⟨fun h=>by simp at h,fun h=>by have:=h1.2 ⟨h.1.v,h.1.p⟩;cases this⟩
def a6b (a b:Channel):Prop:=F3 a.Source b.Source<0
instance (a b:Channel):Decidable (a6b a b):=inferInstanceAs (Decidable (_<_))
theorem b3Y (a b c:Channel) (h1:a6b a b) (h2:a6b b c):a6b a c:=R6.trans _ _ _ h1 h2
structure SI (inv:Inventory):Prop where
 s:∀ c∈inv.Channels,a5j c.Source=true
 e:∀ c∈inv.Channels,VEs c.Epochs
 p:inv.Channels.Pairwise a6b
structure VI (inv:Inventory):Prop extends SI inv where
 n:inv.Channels.length≤128
 m:∀ c∈inv.Channels,c.Epochs.length≤32
theorem a8F {s:ByteArray} {lo hi:Int} (h:a1e s lo hi=true) (hh:hi≤1000):s.size≤9223372036854775807:=by
 unfold a1e at h
 rw [Bool.and_eq_true,a0e] at h
 omega
theorem a6A {s:SourceID} (h:a5j s=true):SrcSm s:=by
 unfold a5j at h
 simp only [Bool.and_eq_true] at h
 obtain ⟨⟨⟨⟨h1,h2⟩,h3⟩,-⟩,h4⟩:=h
 exact ⟨a8F h1 (by decide),a8F h2 (by decide),a8F h3 (by decide),a8F h4 (by decide)⟩
theorem b1b {b:Bool}:(!b)=false↔b=true:=by cases b <;> simp
def FI (inv:Inventory):Prop:=inv.Channels.length≤1000000∧∀ c∈inv.Channels,SrcSm c.Source∧c.Epochs.length≤1000000∧∀ e∈c.Epochs,EF e
theorem VI.fi {inv:Inventory} (h:VI inv):FI inv:=⟨by have:=h.n;omega,fun c hc=>⟨a6A (h.s c hc),by have:=h.m c hc;omega,fun e he=>((h.e c hc).v e he).ce.ef⟩⟩
theorem a7t {inv:Inventory} (hf:FI inv):∃ b,V8 inv=some b∧(b=true↔VI inv):=by
 obtain ⟨b,h1,h2⟩:=a6c inv.Channels (body:=a1h inv) (fun c=>a5j c.Source=true∧VEs c.Epochs∧c.Epochs.length≤32) a6b false (decide ((inv.Channels.length:Int)≤128)) hf.1 (fun a b c _=>b3Y a b c) (fun i hi=>by
  have hm:=hf.2 _ (List.getElem_mem hi)
  obtain ⟨v,v1,v2⟩:=b4I hm.2.1 hm.2.2
  unfold a1h
  rw [if_pos (decide_eq_true (by omega)),w9 _ _ hi]
  simp only [Option.bind_some,a6F hm.1,v1]
  cases hs:a5j inv.Channels[i].Source with
  | false=>exact ⟨false,⟨fun h=>(by cases h),fun h=>(by have:=h.1.1;cases this)⟩,by simp⟩
  | true=>
   cases v with
   | false=>exact ⟨false,⟨fun h=>(by cases h),fun h=>v2.2 h.1.2⟩,by simp⟩
   | true=>
    have hv:=v2.1 rfl
    by_cases h0:0<i
    ·refine ⟨decide (a6b inv.Channels[i - 1] inv.Channels[i]),?_,?_⟩
     ·rw [decide_eq_true_iff];exact ⟨fun h=>⟨⟨rfl,hv⟩,fun _=>h⟩,fun h=>h.2 h0⟩
     ·rw [show decide ((0:Int)<(i:Int))=true from decide_eq_true (by omega),G6 (by omega) (by have:=hf.1;omega),show (i:Int) - 1=((i - 1:Nat):Int) by omega,w9 _ _ (by omega:i - 1<inv.Channels.length),M6 (by have:=hf.1;omega)]
      simp only [Bool.not_true,Bool.false_eq_true,if_false,if_true,Option.bind_some,a3R]
      by_cases hh:F3 inv.Channels[i - 1].Source inv.Channels[i].Source<0
      ·rw [decide_eq_false (show ¬ 0≤F3 inv.Channels[i - 1].Source inv.Channels[i].Source by omega),decide_eq_true (show a6b _ _ from hh)];simp
      ·rw [decide_eq_true (show 0≤F3 inv.Channels[i - 1].Source inv.Channels[i].Source by omega),decide_eq_false (show ¬ a6b _ _ from hh)];simp
    ·refine ⟨true,⟨fun _=>⟨⟨rfl,hv⟩,fun h=>absurd h h0⟩,fun _=>rfl⟩,?_⟩
     rw [show decide ((0:Int)<(i:Int))=false from decide_eq_false (by omega),M6 (by have:=hf.1;omega)]
     simp) (by
  unfold a1h
  rw [if_neg (by simp)];rfl)
 refine ⟨_,h2,?_⟩
 cases b with
 | true=>
  obtain ⟨g1,g2⟩:=h1.1 rfl
  rw [if_pos rfl,decide_eq_true_iff]
  exact ⟨fun h=>⟨⟨fun c hc=>(g1 c hc).1,fun c hc=>(g1 c hc).2.1,g2⟩,by omega,fun c hc=>(g1 c hc).2.2⟩,fun h=>by have:=h.n;omega⟩
 | false=>exact ⟨fun h=>by simp at h,fun h=>by have:=h1.2 ⟨fun c hc=>⟨h.s c hc,h.e c hc,h.m c hc⟩,h.p⟩;cases this⟩
theorem b3H {x:Channel} {k:Int} (k0:0≤k) (k1:k≤1000000) (hl:x.Epochs.length≤32) (h1:1≤x.Epochs.length) (hf:∀ e∈x.Epochs,EF e):∃ b:Bool,o5 (a0l k x) 0=some (if b=true then .inl (k+1) else .inr false)∧(b=true↔VEs x.Epochs):=by
 obtain ⟨b,h1',h2⟩:=a6c x.Epochs (body:=a0l k x) VE bef (.inr false) (.inl (k+1)) (by omega) (fun a b c h=>bef_tr a b c h) (fun i hi=>by
  obtain ⟨v,_,v1,v3⟩:=b2q (hf _ (List.getElem_mem hi)).1
  unfold a0l
  rw [if_pos (decide_eq_true (by omega)),w9 _ _ hi]
  simp only [Option.bind_some,v1]
  cases v with
  | false=>exact ⟨false,⟨fun h=>(by cases h),fun h=>v3.2 h.1⟩,by simp⟩
  | true=>
   have hv:=v3.1 rfl
   by_cases h0:0<i
   ·refine ⟨decide (x.Epochs[i - 1].To≤x.Epochs[i].From),?_,?_⟩
    ·rw [decide_eq_true_iff];exact ⟨fun h=>⟨hv,fun _=>h⟩,fun h=>h.2 h0⟩
    ·rw [show decide ((0:Int)<(i:Int))=true from decide_eq_true (by omega),G6 (by omega) (by omega),show (i:Int) - 1=((i - 1:Nat):Int) by omega,w9 _ _ (by omega:i - 1<x.Epochs.length),M6 (by omega)]
     simp only [Bool.not_true,Bool.false_eq_true,if_false,if_true,Option.bind_some]
     by_cases hh:x.Epochs[i].From<x.Epochs[i - 1].To
     ·rw [decide_eq_true hh,decide_eq_false (show ¬ x.Epochs[i - 1].To≤x.Epochs[i].From by omega)];simp
     ·rw [decide_eq_false hh,decide_eq_true (show x.Epochs[i - 1].To≤x.Epochs[i].From by omega)];simp
   ·refine ⟨true,⟨fun _=>⟨hv,fun h=>absurd h h0⟩,fun _=>rfl⟩,?_⟩
    rw [show decide ((0:Int)<(i:Int))=false from decide_eq_false (by omega),M6 (by omega)]
    simp) (by
  unfold a0l
  rw [if_neg (by simp),G6 (by omega) (by omega)];rfl)
 refine ⟨b,h2,h1'.trans ⟨fun h=>⟨h.1,h.2,fun h=>by rw [h] at h1;simp at h1⟩,fun h=>⟨h.v,h.p⟩⟩⟩
theorem a5i {inv:Inventory} (hf:FI inv):∃ b,a2g inv=some b∧(b=true↔VI inv):=by
 obtain ⟨b,h1,h2⟩:=a6c inv.Channels (body:=a3G inv) (fun c=>a5j c.Source=true∧VEs c.Epochs∧c.Epochs.length≤32) a6b false (decide ((inv.Channels.length:Int)≤128)) hf.1 (fun a b c _=>b3Y a b c) (fun i hi=>by
  have hm:=hf.2 _ (List.getElem_mem hi)
  unfold a3G
  rw [if_pos (decide_eq_true (by omega)),w9 _ _ hi]
  simp only [Option.bind_some,a7a hm.1,a4B]
  cases hs:a5j inv.Channels[i].Source with
  | false=>exact ⟨false,⟨fun h=>(by cases h),fun h=>(by have:=h.1.1;cases this)⟩,by simp⟩
  | true=>
   have key:∀ q:Bool,(q=true↔∀ h:0<i,a6b (inv.Channels[i - 1]'(by omega)) inv.Channels[i])→∃ b:Bool,(b=true↔(true=true∧VEs inv.Channels[i].Epochs∧inv.Channels[i].Epochs.length≤32)∧∀ h:0<i,a6b (inv.Channels[i - 1]'(by omega)) inv.Channels[i]) ∧
     (((if (!q)=true then some true else some (!inB (inv.Channels[i].Epochs.length:Int) 1 32)).bind fun c1448=>if c1448=true then some (Sum.inr false) else o5 (a0l (i:Int) inv.Channels[i]) 0):Option (Int ⊕ Bool))=if b=true then some (.inl ((i+1:Nat):Int)) else some (.inr false):=fun q hq=>by
    cases q with
    | false=>exact ⟨false,⟨fun h=>(by cases h),fun h=>hq.2 h.2⟩,by simp⟩
    | true=>
     cases hn:inB (inv.Channels[i].Epochs.length:Int) 1 32 with
     | false=>
      refine ⟨false,⟨fun h=>(by cases h),fun h=>?_⟩,by simp⟩
      have:=h.1.2.1.ne
      have h3:=h.1.2.2
      have:inB (inv.Channels[i].Epochs.length:Int) 1 32=true:=a0e.2 ⟨by have:=List.length_pos_iff.2 this;omega,by omega⟩
      rw [hn] at this;cases this
     | true=>
      have hn:=a0e.1 hn
      obtain ⟨b,e1,e2⟩:=b3H (x:=inv.Channels[i]) (k:=(i:Int)) (by omega) (by have:=hf.1;omega) (by omega) (by omega) hm.2.2
      refine ⟨b,e2.trans ⟨fun h=>⟨⟨rfl,h,by omega⟩,hq.1 rfl⟩,fun h=>h.1.2.1⟩,?_⟩
      simp only [Bool.not_true,Bool.false_eq_true,if_false,Option.bind_some,e1]
      cases b <;> rfl
   by_cases h0:0<i
   ·obtain ⟨b,b1,b2⟩:=key (decide (a6b inv.Channels[i - 1] inv.Channels[i])) (by rw [decide_eq_true_iff];exact ⟨fun h _=>h,fun h=>h h0⟩)
    refine ⟨b,b1,?_⟩
    rw [← b2,show decide ((0:Int)<(i:Int))=true from decide_eq_true (by omega),G6 (by omega) (by have:=hf.1;omega),show (i:Int) - 1=((i - 1:Nat):Int) by omega,w9 _ _ (by omega:i - 1<inv.Channels.length)]
    simp only [Bool.not_true,Bool.false_eq_true,if_false,if_true,Option.bind_some,a8n]
    by_cases hh:F3 inv.Channels[i - 1].Source inv.Channels[i].Source<0
    ·rw [decide_eq_false (show ¬ 0≤F3 inv.Channels[i - 1].Source inv.Channels[i].Source by omega),decide_eq_true (show a6b _ _ from hh)];simp
    ·rw [decide_eq_true (show 0≤F3 inv.Channels[i - 1].Source inv.Channels[i].Source by omega),decide_eq_false (show ¬ a6b _ _ from hh)];simp
   ·obtain ⟨b,b1,b2⟩:=key true ⟨fun _ h=>absurd h h0,fun _=>rfl⟩
    refine ⟨b,b1,?_⟩
    rw [← b2,show decide ((0:Int)<(i:Int))=false from decide_eq_false (by omega)]
    simp) (by
  unfold a3G
  rw [if_neg (by simp)];rfl)
 refine ⟨_,h2,?_⟩
 cases b with
 | true=>
  obtain ⟨g1,g2⟩:=h1.1 rfl
  rw [if_pos rfl,decide_eq_true_iff]
  exact ⟨fun h=>⟨⟨fun c hc=>(g1 c hc).1,fun c hc=>(g1 c hc).2.1,g2⟩,by omega,fun c hc=>(g1 c hc).2.2⟩,fun h=>by have:=h.n;omega⟩
 | false=>exact ⟨fun h=>by simp at h,fun h=>by have:=h1.2 ⟨fun c hc=>⟨h.s c hc,h.e c hc,h.m c hc⟩,h.p⟩;cases this⟩
theorem VI.valid {inv:Inventory} (h:VI inv):V8 inv=some true:=by obtain ⟨b,h1,h2⟩:=a7t h.fi;rw [h1,h2.2 h]
theorem VI.rvalid {inv:Inventory} (h:VI inv):a2g inv=some true:=by obtain ⟨b,h1,h2⟩:=a5i h.fi;rw [h1,h2.2 h]
theorem capp {α:Type} (b:Nat) (l:List α) (h:l.length≤1000000) (hb:b≤1000):R5 b ([]:List α) l=some l:=by rw [E5 _ _ _ (by simpa using h) hb];rfl
theorem b0K {α:Type} {l:List α} {i:Nat} (h:i<l.length):l.set i l[i]=l:=by rw [List.set_getElem_self]
theorem b1q {e:Epoch} (h:CE e):X4 e=some e:=by
 unfold X4 O3
 rw [capp _ _ (by have:=h.1;omega) (by decide)]
 simp only [Option.bind_some]
 have hw:o5 (Y2 e.Response.Stages) (e.Response.Stages,0)=some e.Response.Stages:=by
  refine a0y (fun i=>(e.Response.Stages,(i:Int))) e.Response.Stages.length e.Response.Stages rfl (fun i hi=>?_) ?_
  ·unfold Y2 a0h
   simp only
   rw [if_pos (decide_eq_true (by omega)),w9 _ _ hi]
   simp only [Option.bind_some]
   rw [capp _ _ (by have:=h.2 _ (List.getElem_mem hi);omega) (by decide)]
   simp only [Option.bind_some]
   rw [a2w _ _ _ (by omega) (by omega),Int.toNat_natCast,M6 (by have:=h.1;omega)]
   simp only [Option.bind_some]
   rw [b0K hi]
  ·unfold Y2
   simp only
   rw [if_neg (by simp)]
 rw [hw];rfl
theorem b1p {c:Channel} (hl:c.Epochs.length≤1000000) (h:∀ e∈c.Epochs,CE e):a0Q c=some c:=by
 unfold a0Q O1
 rw [capp _ _ hl (by decide)]
 simp only [Option.bind_some]
 have hw:o5 (a0F c.Epochs) (c.Epochs,0)=some c.Epochs:=by
  refine a0y (fun i=>(c.Epochs,(i:Int))) c.Epochs.length c.Epochs rfl (fun i hi=>?_) ?_
  ·unfold a0F
   simp only
   rw [if_pos (decide_eq_true (by omega)),w9 _ _ hi]
   simp only [Option.bind_some]
   rw [b1q (h _ (List.getElem_mem hi))]
   simp only [Option.bind_some]
   rw [a2w _ _ _ (by omega) (by omega),Int.toNat_natCast,M6 (by omega)]
   simp only [Option.bind_some]
   rw [b0K hi]
  ·unfold a0F
   simp only
   rw [if_neg (by simp)]
 rw [hw];rfl
def CI (inv:Inventory):Prop:=inv.Channels.length≤1000000∧∀ c∈inv.Channels,c.Epochs.length≤1000000∧∀ e∈c.Epochs,CE e
theorem VI.ci {inv:Inventory} (h:VI inv):CI inv:=⟨by have:=h.n;omega,fun c hc=>⟨by have:=h.m c hc;omega,fun e he=>((h.e c hc).v e he).ce⟩⟩
theorem b4a {inv:Inventory} (h:CI inv):a0P inv=some inv:=by
 unfold a0P K6
 rw [capp _ _ h.1 (by decide)]
 simp only [Option.bind_some]
 have hw:o5 (a1R inv.Channels) (inv.Channels,0)=some inv.Channels:=by
  refine a0y (fun i=>(inv.Channels,(i:Int))) inv.Channels.length inv.Channels rfl (fun i hi=>?_) ?_
  ·unfold a1R
   simp only
   rw [if_pos (decide_eq_true (by omega)),w9 _ _ hi]
   simp only [Option.bind_some]
   have hc:=h.2 _ (List.getElem_mem hi)
   rw [b1p hc.1 hc.2]
   simp only [Option.bind_some]
   rw [a2w _ _ _ (by omega) (by omega),Int.toNat_natCast,M6 (by have:=h.1;omega)]
   simp only [Option.bind_some]
   rw [b0K hi]
  ·unfold a1R
   simp only
   rw [if_neg (by simp)]
 rw [hw];rfl
theorem a6p {e:Epoch} (h:CE e):T9 e=some e:=by
 unfold T9 a8p
 have hw:o5 (a4r e.Response) ([],0)=some e.Response.Stages:=by
  refine a0y (fun i=>(e.Response.Stages.take i,(i:Int))) e.Response.Stages.length e.Response.Stages (by simp) (fun i hi=>?_) ?_
  ·unfold a4r
   simp only
   rw [if_pos (decide_eq_true (by omega)),w9 _ _ hi]
   simp only [Option.bind_some]
   rw [capp _ _ (by have:=h.2 _ (List.getElem_mem hi);omega) (by decide)]
   simp only [Option.bind_some]
   rw [E5 _ _ _ (by have:=h.1;simp;omega) (by decide),M6 (by have:=h.1;omega),C9 hi]
   rfl
  ·unfold a4r
   simp only
   rw [if_neg (by simp),List.take_length]
 rw [hw];rfl
theorem a8R {inv:Inventory} (h:CI inv):a3e inv=some inv:=by
 unfold a3e
 have hw:o5 (a4t inv) ([],0)=some inv.Channels:=by
  refine a0y (fun i=>(inv.Channels.take i,(i:Int))) inv.Channels.length inv.Channels (by simp) (fun i hi=>?_) ?_
  ·have hc:=h.2 _ (List.getElem_mem hi)
   have hw2:o5 (a4u inv (inv.Channels.take i,(i:Int))) ([],0)=some inv.Channels[i].Epochs:=by
    refine a0y (fun j=>(inv.Channels[i].Epochs.take j,(j:Int))) inv.Channels[i].Epochs.length inv.Channels[i].Epochs (by simp) (fun j hj=>?_) ?_
    ·unfold a4u
     simp only
     rw [w9 _ _ hi]
     simp only [Option.bind_some]
     rw [if_pos (decide_eq_true (by omega)),w9 _ _ hj]
     simp only [Option.bind_some]
     rw [a6p (hc.2 _ (List.getElem_mem hj))]
     simp only [Option.bind_some]
     rw [E5 _ _ _ (by simp;omega) (by decide),M6 (by omega),C9 hj]
     rfl
    ·unfold a4u
     simp only
     rw [w9 _ _ hi]
     simp only [Option.bind_some]
     rw [if_neg (by simp),List.take_length]
   unfold a4t
   simp only
   rw [if_pos (decide_eq_true (by omega)),w9 _ _ hi]
   simp only [Option.bind_some]
   rw [hw2]
   simp only [Option.bind_some]
   rw [E5 _ _ _ (by have:=h.1;simp;omega) (by decide),M6 (by have:=h.1;omega),C9 hi]
   rfl
  ·unfold a4t
   simp only
   rw [if_neg (by simp),List.take_length]
 rw [hw];rfl
end Go.Proofs.YteanekphncdhiaaGreat.Sh
namespace Go.Proofs.YteanekphncdhiaaGreat.Sh
open Go
set_option linter.unusedVariables false
set_option linter.unusedSimpArgs false
theorem a7E {α:Type} {body:Int→Option (Int ⊕ Bool)} (a b:List α) (hl:a.length=b.length) (hb:a.length≤1000000000000000) (h:∀ i (hi:i<a.length),∃ c:Bool,(c=true↔a[i]=b[i]'(by omega))∧body (i:Int)=if c=true then some (.inl ((i+1:Nat):Int)) else some (.inr false))
  (he:body (a.length:Int)=some (.inr true)):∃ c:Bool,o5 body 0=some c∧(c=true↔a=b):=by
 obtain ⟨r,e,h1⟩:=R3 (b1:=body) (fun k s=>∃ i:Nat,s=(i:Int)∧k+i=a.length∧a.take i=b.take i) (fun r=>(r=true↔a=b)) (fun k s ⟨i,es,hk,ht⟩=>by
  subst es
  by_cases hil:i<a.length
  ·obtain ⟨c,c1,c2⟩:=h i hil
   rw [c2]
   cases c with
   | true=>exact .inl ⟨_,k - 1,rfl,⟨i+1,rfl,by omega,by rw [C9 hil,C9 (show i<b.length by omega),ht,c1.1 rfl]⟩,by omega⟩
   | false=>exact .inr ⟨false,rfl,⟨fun h=>(by cases h),fun h=>c1.2 (by subst h;rfl)⟩⟩
  ·have hi:i=a.length:=by omega
   subst hi
   rw [he]
   rw [List.take_length,hl,List.take_length] at ht
   exact .inr ⟨true,rfl,⟨fun _=>ht,fun _=>rfl⟩⟩) a.length 0 ⟨0,rfl,by omega,by simp⟩
 exact ⟨r,e,h1⟩
theorem b1U {α β:Type} {a:List α} {b:List β}:((a.length:Int) != (b.length:Int))=!decide (a.length=b.length):=by
 by_cases h:a.length=b.length
 ·simp [h]
 ·have:¬ (a.length:Int)=(b.length:Int):=by omega
  simp [this,h]
theorem eq_ints (a b:List Int) (ha:a.length≤1000000000000000):∃ c:Bool,a0i a b=some c∧(c=true↔a=b):=by
 unfold a0i
 rw [b1U]
 by_cases hl:a.length=b.length
 ·rw [if_neg (by simp [hl])]
  refine a7E a b hl ha (fun i hi=>⟨a[i] == b[i]'(by omega),by simp,?_⟩) ?_
  ·unfold a0A
   rw [if_pos (decide_eq_true (by omega)),w9 _ _ hi,w9 _ _ (show i<b.length by omega),M6 (by omega)]
   simp only [Option.bind_some,bne]
   by_cases hq:a[i]=b[i]'(by omega) <;> simp [hq]
  ·unfold a0A
   rw [if_neg (by simp)];rfl
 ·rw [if_pos (by simp [hl])]
  exact ⟨false,rfl,fun h=>(by cases h),fun h=>absurd (by rw [h]) hl⟩
theorem b3r {a b:Arr3 Int}:((a.e0 == b.e0) && ((a.e1 == b.e1) && ((a.e2 == b.e2) && true)))=true↔a=b:=by
 obtain ⟨x,y,z⟩:=a;obtain ⟨u,v,w⟩:=b
 simp
theorem stage_ok {a b:Stage} (ha:a.Taps.length≤1000000000000000):∃ c:Bool,V6 a b=some c∧(c=true↔a=b):=by
 obtain ⟨e,e1,e2⟩:=eq_ints a.Taps b.Taps ha
 refine ⟨(((((a.Kind == b.Kind) && ((a.Num.e0 == b.Num.e0) && ((a.Num.e1 == b.Num.e1) && ((a.Num.e2 == b.Num.e2) && true)))) && ((a.Den.e0 == b.Den.e0) && ((a.Den.e1 == b.Den.e1) && ((a.Den.e2 == b.Den.e2) && true)))) && e) && (a.Factor == b.Factor)) && (a.Shift == b.Shift),?_,?_⟩
 ·unfold V6
  rw [e1]
  simp only [Option.bind_some,iteT]
 ·rw [Bool.and_eq_true,Bool.and_eq_true,Bool.and_eq_true,Bool.and_eq_true,Bool.and_eq_true,b3r,b3r,e2]
  obtain ⟨k,n,d,t,f,s⟩:=a;obtain ⟨k',n',d',t',f',s'⟩:=b
  simp only [beq_iff_eq,Stage.mk.injEq]
  constructor
  ·rintro ⟨⟨⟨⟨⟨h1,h2⟩,h3⟩,h4⟩,h5⟩,h6⟩;exact ⟨h1,h2,h3,h4,h5,h6⟩
  ·rintro ⟨h1,h2,h3,h4,h5,h6⟩;exact ⟨⟨⟨⟨⟨h1,h2⟩,h3⟩,h4⟩,h5⟩,h6⟩
theorem b4n {a b:Response} (ha:a.Stages.length≤1000) (ht:∀ s∈a.Stages,s.Taps.length≤1000000000000000):∃ c:Bool,a2J a b=some c∧(c=true↔a=b):=by
 have hr:a=b↔a.Stages=b.Stages:=by cases a;cases b;simp
 unfold a2J G7
 rw [b1U,hr]
 by_cases hl:a.Stages.length=b.Stages.length
 ·rw [if_neg (by simp [hl])]
  obtain ⟨c,c1,c2⟩:=a7E (body:=A8 a.Stages b.Stages V6) a.Stages b.Stages hl (by omega) (fun i hi=>by
   obtain ⟨c,c1,c2⟩:=stage_ok (a:=a.Stages[i]) (b:=b.Stages[i]'(by omega)) (ht _ (List.getElem_mem hi))
   refine ⟨c,c2,?_⟩
   unfold A8
   rw [if_pos (decide_eq_true (by omega)),w9 _ _ hi,w9 _ _ (show i<b.Stages.length by omega),M6 (by omega)]
   simp only [Option.bind_some,c1]
   cases c <;> rfl) (by
   unfold A8
   rw [if_neg (by simp)];rfl)
  exact ⟨c,by rw [c1];rfl,c2⟩
 ·rw [if_pos (by simp [hl])]
  exact ⟨false,rfl,fun h=>(by cases h),fun h=>absurd (by rw [h]) hl⟩
theorem b1s {a b:Epoch} {c:Bool} (hc:c=true↔a.Response=b.Response):((((((a.From == b.From) && (a.To == b.To)) && ((a.Rate.Num == b.Rate.Num) && ((a.Rate.Den == b.Rate.Den) && true))) && ((a.Position.X == b.Position.X) && ((a.Position.Y == b.Position.Y) && ((a.Position.Z == b.Position.Z) && true)))) && c)=true)↔a=b:=by
 obtain ⟨f,t,⟨n,d⟩,⟨x,y,z⟩,r⟩:=a;obtain ⟨f',t',⟨n',d'⟩,⟨x',y',z'⟩,r'⟩:=b
 simp only [Bool.and_eq_true,beq_iff_eq,Epoch.mk.injEq,Rate.mk.injEq,Position.mk.injEq,and_true,hc]
 constructor
 ·rintro ⟨⟨⟨⟨h1,h2⟩,h3,h4⟩,h5,h6,h7⟩,h8⟩;exact ⟨h1,h2,⟨h3,h4⟩,⟨h5,h6,h7⟩,h8⟩
 ·rintro ⟨h1,h2,⟨h3,h4⟩,⟨h5,h6,h7⟩,h8⟩;exact ⟨⟨⟨⟨h1,h2⟩,h3,h4⟩,h5,h6,h7⟩,h8⟩
theorem b2j {a b:Epoch} (h:EF a):∃ c:Bool,X5 a b=some c∧(c=true↔a=b):=by
 obtain ⟨c,c1,c2⟩:=b4n (a:=a.Response) (b:=b.Response) h.1 h.2
 refine ⟨_,?_,b1s c2⟩
 unfold X5
 rw [c1]
 simp only [Option.bind_some,iteT]
theorem b4V {a b:Stage} (ha:a.Taps.length≤1000000000000000):∃ c:Bool,a2V a b=some c∧(c=true↔a=b):=by
 unfold a2V
 by_cases hg:((((((a.Kind != b.Kind) || (!((a.Num.e0 == b.Num.e0) && ((a.Num.e1 == b.Num.e1) && ((a.Num.e2 == b.Num.e2) && true))))) || (!((a.Den.e0 == b.Den.e0) && ((a.Den.e1 == b.Den.e1) && ((a.Den.e2 == b.Den.e2) && true))))) || (a.Factor != b.Factor)) || (a.Shift != b.Shift)) || ((a.Taps.length:Int) != (b.Taps.length:Int)))=true
 ·rw [if_pos hg]
  refine ⟨false,rfl,fun h=>(by cases h),fun h=>?_⟩
  subst h
  simp at hg
 ·rw [if_neg hg]
  rw [b1U] at hg
  simp only [Bool.or_eq_true,not_or,Bool.not_eq_true,bne_eq_false_iff_eq,b1b,b3r,decide_eq_true_eq] at hg
  obtain ⟨⟨⟨⟨⟨h1,h2⟩,h3⟩,h4⟩,h5⟩,h6⟩:=hg
  obtain ⟨c,c1,c2⟩:=a7E (body:=a1l a b) a.Taps b.Taps h6 ha (fun i hi=>⟨a.Taps[i] == b.Taps[i]'(by omega),by simp,by
   unfold a1l
   rw [if_pos (decide_eq_true (by omega)),w9 _ _ hi,w9 _ _ (show i<b.Taps.length by omega),M6 (by omega)]
   simp only [Option.bind_some,bne]
   by_cases hq:a.Taps[i]=b.Taps[i]'(by omega) <;> simp [hq]⟩) (by
   unfold a1l
   rw [if_neg (by simp)];rfl)
  refine ⟨c,c1,c2.trans ⟨fun h=>?_,fun h=>by rw [h]⟩⟩
  cases a;cases b
  simp only at h1 h2 h3 h4 h5 h
  subst h1;subst h2;subst h3;subst h4;subst h5;subst h;rfl
theorem rresp_ok {a b:Response} (ha:a.Stages.length≤1000) (ht:∀ s∈a.Stages,s.Taps.length≤1000000000000000):∃ c:Bool,a6q a b=some c∧(c=true↔a=b):=by
 have hr:a=b↔a.Stages=b.Stages:=by cases a;cases b;simp
 unfold a6q
 rw [b1U,hr]
 by_cases hl:a.Stages.length=b.Stages.length
 ·rw [if_neg (by simp [hl])]
  refine a7E (body:=a4s a b) a.Stages b.Stages hl (by omega) (fun i hi=>?_) ?_
  ·obtain ⟨c,c1,c2⟩:=b4V (a:=a.Stages[i]) (b:=b.Stages[i]'(by omega)) (ht _ (List.getElem_mem hi))
   refine ⟨c,c2,?_⟩
   unfold a4s
   rw [if_pos (decide_eq_true (by omega)),w9 _ _ hi,w9 _ _ (show i<b.Stages.length by omega),M6 (by omega)]
   simp only [Option.bind_some,c1]
   cases c <;> rfl
  ·unfold a4s
   rw [if_neg (by simp)];rfl
 ·rw [if_pos (by simp [hl])]
  exact ⟨false,rfl,fun h=>(by cases h),fun h=>absurd (by rw [h]) hl⟩
theorem a7Y {a b:Epoch} (h:EF a):∃ c:Bool,a0k a b=some c∧(c=true↔a=b):=by
 obtain ⟨c,c1,c2⟩:=rresp_ok (a:=a.Response) (b:=b.Response) h.1 h.2
 refine ⟨_,?_,b1s c2⟩
 unfold a0k
 rw [c1]
 simp only [Option.bind_some,iteT]
theorem b4y {e:Epoch} (h:EF e):∃ c:Bool,a4x e=some c∧a6u e=some c∧(c=true↔e=noEp):=by
 obtain ⟨c,c1,c2⟩:=b2j (b:=noEp) h
 obtain ⟨c',c3,c4⟩:=a7Y (b:=noEp) h
 have:c'=c:=Bool.eq_iff_iff.2 (c4.trans c2.symm)
 subst this
 refine ⟨c',?_,?_,c2⟩
 ·unfold a4x
  rw [show X5 e ⟨0,0,⟨0,0⟩,⟨0,0,0⟩,⟨[]⟩⟩=some c' from c1];rfl
 ·unfold a6u
  rw [show a0k e ⟨0,0,⟨0,0⟩,⟨0,0,0⟩,⟨[]⟩⟩=some c' from c3];rfl
theorem ba_beq (a b:ByteArray):(a == b)=decide (a=b):=by
 cases a with | mk x=>cases b with | mk y=>
 show (x == y)=_
 rw [Bool.eq_iff_iff];simp
theorem b2o {a b:SourceID}:((a.Network == b.Network) && ((a.Station == b.Station) && ((a.Location == b.Location) && ((a.Channel == b.Channel) && true))))=true↔a=b:=by
 obtain ⟨x,y,z,u⟩:=a;obtain ⟨x',y',z',u'⟩:=b
 simp only [ba_beq,Bool.and_eq_true,decide_eq_true_eq,and_true,SourceID.mk.injEq]
noncomputable instance decSrc:DecidableEq SourceID:=fun a b=>Classical.propDecidable (a=b)
theorem a7G {a b:SourceID}:((a.Network == b.Network) && ((a.Station == b.Station) && ((a.Location == b.Location) && ((a.Channel == b.Channel) && true))))=decide (a=b):=by
 rw [Bool.eq_iff_iff,b2o,decide_eq_true_iff]
noncomputable def epL (s:SourceID):List Channel→List Epoch
 | []=>[]
 | c :: l=>if c.Source=s then c.Epochs else epL s l
def b1z:SourceID:=⟨ByteArray.empty,ByteArray.empty,ByteArray.empty,ByteArray.empty⟩
noncomputable def a7V (s:SourceID):List Channel→Channel × Bool
 | []=>(⟨b1z,[]⟩,false)
 | c :: l=>if c.Source=s then (c,true) else a7V s l
theorem a4A (s:SourceID):∀ l:List Channel,(a7V s l).1.Epochs=epL s l
 | []=>rfl
 | c :: l=>by
  unfold a7V epL
  split
  ·rfl
  ·exact a4A s l
theorem b1v {s:SourceID} {body:Int→Option (Int ⊕ (Channel × Bool))} (l:List Channel) (hl:l.length≤1000000) (h1:∀ i (hi:i<l.length),body (i:Int)=if l[i].Source=s then some (.inr (l[i],true)) else some (.inl ((i+1:Nat):Int))) (h2:body (l.length:Int)=some (.inr (⟨b1z,[]⟩,false))) :
  o5 body 0=some (a7V s l):=by
 have key:∀ m,m≤l.length→o5 body ((l.length - m:Nat):Int)=some (a7V s (l.drop (l.length - m))):=by
  intro m
  induction m with
  | zero=>
   intro _
   rw [I8,Nat.sub_zero,h2,List.drop_length];rfl
  | succ m ih=>
   intro hm
   have ih:=ih (by omega)
   rw [show l.length - m=l.length - (m+1)+1 by omega] at ih
   have hi:l.length - (m+1)<l.length:=by omega
   rw [I8,List.drop_eq_getElem_cons hi,h1 _ hi]
   unfold a7V
   by_cases hx:l[l.length - (m+1)].Source=s
   ·rw [if_pos hx,if_pos hx];rfl
   ·rw [if_neg hx,if_neg hx];exact ih
 have:=key l.length (Nat.le_refl _)
 rw [Nat.sub_self] at this
 exact this
theorem find_ok {inv:Inventory} (h:CI inv) (s:SourceID):a2c inv s=some (a7V s inv.Channels):=by
 unfold a2c
 refine b1v _ h.1 (fun i hi=>?_) ?_
 ·have hc:=h.2 _ (List.getElem_mem hi)
  unfold a3z
  rw [if_pos (decide_eq_true (by omega)),w9 _ _ hi]
  simp only [Option.bind_some,a7G,b1p hc.1 hc.2,M6 (show i≤1000000000000000000 by have:=h.1;omega),decide_eq_true_eq]
 ·unfold a3z
  rw [if_neg (by simp)];rfl
theorem b2W {inv:Inventory} (h:CI inv) (s:SourceID):a6r inv s=some (a7V s inv.Channels):=by
 unfold a6r
 refine b1v _ h.1 (fun i hi=>?_) ?_
 ·have hc:=h.2 _ (List.getElem_mem hi)
  unfold a5E
  rw [if_pos (decide_eq_true (by omega)),w9 _ _ hi]
  have hsub:D8 inv.Channels (i:Int) ((i+1:Nat):Int)=some [inv.Channels[i]]:=by
   rw [a0B _ _ _ (by omega) (by omega),C9 hi,List.drop_append_of_le_length (by simp;omega),List.drop_eq_nil_of_le (by simp;omega)];rfl
  simp only [Option.bind_some,a7G,M6 (show i≤1000000000000000000 by have:=h.1;omega),decide_eq_true_eq,hsub]
  rw [a8R (inv:=⟨[inv.Channels[i]]⟩) ⟨by simp,fun c hc'=>by rcases List.mem_singleton.1 hc' with rfl;exact hc⟩]
  rfl
 ·unfold a5E
  rw [if_neg (by simp)];rfl
end Go.Proofs.YteanekphncdhiaaGreat.Sh
namespace Go.Proofs.YteanekphncdhiaaGreat.Sh
open Go
set_option linter.unusedVariables false
set_option linter.unusedSimpArgs false
def InI (inv:Inventory) (s:SourceID) (e:Epoch):Prop:=∃ c∈inv.Channels,c.Source=s∧e∈c.Epochs
structure VL (l:List Epoch):Prop where
 v:∀ e∈l,VE e
 p:l.Pairwise bef
theorem VEs.vl {l:List Epoch} (h:VEs l):VL l:=⟨h.v,h.p⟩
theorem VL.nil:VL []:=⟨(fun e he=>by cases he),List.Pairwise.nil⟩
theorem VL.ves {l:List Epoch} (h:VL l) (hn:l≠[]):VEs l:=⟨h.v,h.p,hn⟩
def a4H (a b:Epoch):Prop:=a.From<b.To∧b.From<a.To
theorem VL.apart {l:List Epoch} (h:VL l):l.Pairwise (fun a b=>¬ a4H a b):=by
 refine h.p.imp_of_mem fun {a b} ha hb hab=>?_
 have:=(h.v a ha).ft;have:=(h.v b hb).ft
 unfold bef at hab;unfold a4H;omega
theorem a8l {a b:Epoch} (h:¬ a4H a b):¬ a4H b a:=fun hh=>h ⟨hh.2,hh.1⟩
theorem b1B {α:Type} {R:α→α→Prop} (hs:∀ a b,R a b→R b a):∀ {l:List α},l.Pairwise R→∀ a∈l,∀ b∈l,a≠b→R a b
 | [],_,a,ha,_,_,_=>by cases ha
 | x :: l,h,a,ha,b,hb,hab=>by
  obtain ⟨h1,h2⟩:=List.pairwise_cons.1 h
  rcases List.mem_cons.1 ha with e1 | ha'
  ·rcases List.mem_cons.1 hb with e2 | hb'
   ·exact absurd (e1.trans e2.symm) hab
   ·rw [e1];exact h1 b hb'
  ·rcases List.mem_cons.1 hb with e2 | hb'
   ·rw [e2];exact hs _ _ (h1 a ha')
   ·exact b1B hs h2 a ha' b hb' hab
theorem VL.one {l:List Epoch} (h:VL l) {a b:Epoch} (ha:a∈l) (hb:b∈l) (ho:a4H a b):a=b:=by
 refine Classical.byContradiction fun hn=>?_
 exact b1B (fun a b=>a8l) h.apart a ha b hb hn ho
theorem VE.self {e:Epoch} (h:VE e):a4H e e:=⟨h.ft,h.ft⟩
theorem VL.from_eq {l:List Epoch} (h:VL l) {a b:Epoch} (ha:a∈l) (hb:b∈l) (he:a.From=b.From):a=b:=by
 refine h.one ha hb ⟨?_,?_⟩
 ·have:=(h.v b hb).ft;omega
 ·have:=(h.v a ha).ft;omega
theorem VL.sub {l m:List Epoch} (h:VL l) (hm:m.Sublist l):VL m:=⟨fun e he=>h.v e (hm.subset he),h.p.sublist hm⟩
theorem VL.asc {l:List Epoch} (h:VL l):l.Pairwise (fun a b=>a.From - b.From<0):=h.p.imp_of_mem fun {a b} ha hb hab=>by
 have:=(h.v a ha).ft;unfold bef at hab;omega
theorem b1S:Cmp (fun a b:Epoch=>a.From - b.From):=⟨fun a b=>by omega,fun a b d h1 h2=>by omega,fun a b h d=>by omega⟩
theorem VL.uniq {l m:List Epoch} (h:VL l) (hm:VL m) (he:∀ e,e∈l↔e∈m):l=m:=a3u b1S h.asc hm.asc he
theorem VL.del {l:List Epoch} (h:VL l) {i:Nat} (hi:i<l.length) {t:Int} (ht:l[i].From=t):VL (l.take i ++ l.drop (i+1))∧(∀ e,e∈l.take i ++ l.drop (i+1)↔e∈l∧e.From≠t)∧(l.take i ++ l.drop (i+1)).length+1=l.length:=by
 have hs:(l.take i ++ l.drop (i+1)).Sublist l:=by rw [← List.eraseIdx_eq_take_drop_succ];exact List.eraseIdx_sublist _ _
 refine ⟨h.sub hs,fun e=>⟨fun he=>⟨hs.subset he,fun hf=>?_⟩,fun ⟨he,hf⟩=>?_⟩,by simp;omega⟩
 ·obtain rfl:=h.from_eq (hs.subset he) (List.getElem_mem hi) (hf.trans ht.symm)
  rw [← List.eraseIdx_eq_take_drop_succ,List.mem_eraseIdx_iff_getElem] at he
  obtain ⟨j,hj,hji,hje⟩:=he
  have hp:=List.pairwise_iff_getElem.1 h.asc
  rcases Nat.lt_or_gt_of_ne hji with hlt | hlt
  ·have:=hp j i hj hi hlt;rw [hje] at this;omega
  ·have:=hp i j hi hj hlt;rw [hje] at this;omega
 ·rw [← List.eraseIdx_eq_take_drop_succ,List.mem_eraseIdx_iff_getElem]
  obtain ⟨j,hj,rfl⟩:=List.mem_iff_getElem.1 he
  exact ⟨j,hj,fun hji=>by subst hji;exact hf ht,rfl⟩
theorem VL.of_sorted {l:List Epoch} (hv:∀ e∈l,VE e) (ha:l.Pairwise (fun a b=>¬ a4H a b)) (hs:l.Pairwise (fun a b=>a.From - b.From≤0)):VL l:=by
 refine ⟨hv,(ha.and hs).imp_of_mem fun {a b} h1 h2 ⟨h3,h4⟩=>?_⟩
 have:=(hv a h1).ft;have:=(hv b h2).ft
 unfold a4H at h3;unfold bef;omega
theorem b3o {l:List Epoch} {e:Epoch} (h:VL l) (hn:∀ x∈l,¬ a4H x e):(l ++ [e]).Pairwise (fun a b=>¬ a4H a b):=by
 rw [List.pairwise_append]
 exact ⟨h.apart,List.pairwise_singleton _ _,fun a ha b hb=>by rcases List.mem_singleton.1 hb with rfl;exact hn a ha⟩
theorem a3j (s:SourceID):F3 s s=0:=R6.refl s
theorem b2z {a b:SourceID} (h:0<F3 a b):F3 b a<0:=by rw [R6.anti a b];omega
theorem b1O {a b:SourceID} (h:F3 a b<0):0<F3 b a:=by rw [R6.anti a b];omega
theorem SI.src {inv:Inventory} (h:SI inv) {a b:Channel} (ha:a∈inv.Channels) (hb:b∈inv.Channels) (hs:a.Source=b.Source):a=b:=by
 refine Classical.byContradiction fun hn=>?_
 have:=b1B (R:=fun a b=>a6b a b∨a6b b a) (fun a b h=>h.symm) (h.p.imp fun h=>Or.inl h) a ha b hb hn
 unfold a6b at this
 rw [hs,a3j] at this
 omega
theorem epL_cons (s:SourceID) (c:Channel) (l:List Channel):epL s (c :: l)=if c.Source=s then c.Epochs else epL s l:=rfl
theorem b4k {s:SourceID}:∀ {l:List Channel},(∀ a∈l,∀ b∈l,a.Source=b.Source→a=b)→∀ e,e∈epL s l↔∃ c∈l,c.Source=s∧e∈c.Epochs
 | [],_,e=>by simp [epL]
 | c :: l,h,e=>by
  unfold epL
  by_cases hc:c.Source=s
  ·rw [if_pos hc]
   refine ⟨fun he=>⟨c,List.mem_cons_self,hc,he⟩,fun ⟨d,hd,hds,he⟩=>?_⟩
   obtain rfl:=h d hd c List.mem_cons_self (hds.trans hc.symm)
   exact he
  ·rw [if_neg hc,b4k (fun a ha b hb=>h a (List.mem_cons_of_mem _ ha) b (List.mem_cons_of_mem _ hb))]
   refine ⟨fun ⟨d,hd,h1⟩=>⟨d,List.mem_cons_of_mem _ hd,h1⟩,fun ⟨d,hd,h1,h2⟩=>?_⟩
   rcases List.mem_cons.1 hd with rfl | hd
   ·exact absurd h1 hc
   ·exact ⟨d,hd,h1,h2⟩
theorem SI.ep {inv:Inventory} (h:SI inv) (s:SourceID) (e:Epoch):e∈epL s inv.Channels↔InI inv s e:=b4k (fun a ha b hb=>h.src ha hb) e
theorem a3k (s:SourceID):∀ l:List Channel,(epL s l=[]∧∀ c∈l,c.Source≠s)∨∃ c∈l,c.Source=s∧epL s l=c.Epochs
 | []=>.inl ⟨rfl,fun c hc=>by cases hc⟩
 | c :: l=>by
  unfold epL
  by_cases hc:c.Source=s
  ·rw [if_pos hc];exact .inr ⟨c,List.mem_cons_self,hc,rfl⟩
  ·rw [if_neg hc]
   rcases a3k s l with ⟨h1,h2⟩ | ⟨d,hd,h1,h2⟩
   ·exact .inl ⟨h1,fun d hd=>by rcases List.mem_cons.1 hd with rfl | hd;exact hc;exact h2 d hd⟩
   ·exact .inr ⟨d,List.mem_cons_of_mem _ hd,h1,h2⟩
theorem SI.vl {inv:Inventory} (h:SI inv) (s:SourceID):VL (epL s inv.Channels):=by
 rcases a3k s inv.Channels with ⟨h1,_⟩ | ⟨c,hc,_,h1⟩
 ·rw [h1];exact VL.nil
 ·rw [h1];exact (h.e c hc).vl
theorem SI.uniq {a b:Inventory} (ha:SI a) (hb:SI b) (h:∀ s e,InI a s e↔InI b s e):a=b:=by
 have key:∀ {a b:Inventory},SI a→SI b→(∀ s e,InI a s e↔InI b s e)→∀ c,c∈a.Channels→c∈b.Channels:=fun {a b} ha hb h c hc=>by
  obtain ⟨e,he⟩:=List.exists_mem_of_ne_nil _ (ha.e c hc).ne
  obtain ⟨d,hd,hs,_⟩:=(h c.Source e).1 ⟨c,hc,rfl,he⟩
  have:c.Epochs=d.Epochs:=(ha.e c hc).vl.uniq (hb.e d hd).vl fun e=>by
   constructor
   ·intro he
    obtain ⟨d',hd',hs',he'⟩:=(h c.Source e).1 ⟨c,hc,rfl,he⟩
    obtain rfl:=hb.src hd' hd (hs'.trans hs.symm)
    exact he'
   ·intro he
    obtain ⟨c',hc',hs',he'⟩:=(h c.Source e).2 ⟨d,hd,hs,he⟩
    obtain rfl:=ha.src hc' hc hs'
    exact he'
  have hcd:c=d:=by cases c;cases d;simp only at hs this;subst hs;subst this;rfl
  rw [hcd];exact hd
 have:a.Channels=b.Channels:=by
  refine a3u (c:=fun x y:Channel=>F3 x.Source y.Source) (R6.by (fun x:Channel=>x.Source)) ha.p hb.p fun c=>⟨key ha hb h c,key hb ha (fun s e=>(h s e).symm) c⟩
 cases a;cases b;simp only at this;rw [this]
structure Dec (cs:List Channel) (s:SourceID) (A M B:List Channel):Prop where
 eq:cs=A ++ (M ++ B)
 lo:∀ c∈A,F3 c.Source s<0
 hi:∀ c∈B,F3 s c.Source<0
 m:M=[]∨∃ c,M=[c]∧c.Source=s
theorem b0o {s:SourceID} {B:List Channel}:∀ {A:List Channel},(∀ c∈A,c.Source≠s)→epL s (A ++ B)=epL s B
 | [],_=>rfl
 | c :: A,h=>by
  rw [List.cons_append,epL_cons,if_neg (h c List.mem_cons_self)]
  exact b0o fun d hd=>h d (List.mem_cons_of_mem _ hd)
theorem ne_of_lt {a b:SourceID} (h:F3 a b<0):a≠b:=fun e=>by rw [e,a3j] at h;omega
theorem b2G {s:SourceID} {B:List Channel} (h:∀ c∈B,c.Source≠s):epL s B=[]:=by
 have:=b0o (B:=[]) h
 rw [List.append_nil] at this
 exact this
theorem Dec.ep {cs A M B:List Channel} {s:SourceID} (h:Dec cs s A M B):epL s cs=(M.map (·.Epochs)).flatten:=by
 rw [h.eq,b0o fun c hc=>ne_of_lt (h.lo c hc)]
 rcases h.m with rfl | ⟨c,rfl,hc⟩
 ·rw [List.nil_append,b2G fun c hc=>Ne.symm (ne_of_lt (h.hi c hc))];rfl
 ·show epL s (c :: B)=_
  unfold epL
  rw [if_pos hc];simp
def a3r (s:SourceID) (l:List Epoch):List Channel:=if l=[] then [] else [⟨s,l⟩]
theorem Dec.put {cs A M B:List Channel} {s:SourceID} (h:Dec cs s A M B) (l:List Epoch):Dec (A ++ (a3r s l ++ B)) s A (a3r s l) B:=⟨rfl,h.lo,h.hi,by
 unfold a3r
 split
 ·exact .inl rfl
 ·exact .inr ⟨_,rfl,rfl⟩⟩
theorem Dec.si {inv:Inventory} {A M B:List Channel} {s:SourceID} (h:Dec inv.Channels s A M B) (hi:SI inv) (hs:a5j s=true) {l:List Epoch} (hl:VL l):SI ⟨A ++ (a3r s l ++ B)⟩:=by
 have hA:∀ c∈A,c∈inv.Channels:=fun c hc=>by rw [h.eq];simp [hc]
 have hB:∀ c∈B,c∈inv.Channels:=fun c hc=>by rw [h.eq];simp [hc]
 have hm:∀ c∈a3r s l,c=⟨s,l⟩∧l≠[]:=fun c hc=>by
  unfold a3r at hc
  split at hc
  ·cases hc
  ·rename_i hne;exact ⟨List.mem_singleton.1 hc,hne⟩
 have hp:=hi.p
 rw [h.eq,List.pairwise_append] at hp
 obtain ⟨p1,p2,p3⟩:=hp
 obtain ⟨-,p4,-⟩:=List.pairwise_append.1 p2
 refine ⟨fun c hc=>?_,fun c hc=>?_,?_⟩
 ·rcases List.mem_append.1 hc with hc | hc
  ·exact hi.s c (hA c hc)
  ·rcases List.mem_append.1 hc with hc | hc
   ·rw [(hm c hc).1];exact hs
   ·exact hi.s c (hB c hc)
 ·rcases List.mem_append.1 hc with hc | hc
  ·exact hi.e c (hA c hc)
  ·rcases List.mem_append.1 hc with hc | hc
   ·obtain ⟨rfl,hne⟩:=hm c hc;exact hl.ves hne
   ·exact hi.e c (hB c hc)
 ·refine List.pairwise_append.2 ⟨p1,List.pairwise_append.2 ⟨?_,p4,fun a ha b hb=>?_⟩,fun a ha b hb=>?_⟩
  ·unfold a3r;split
   ·exact List.Pairwise.nil
   ·exact List.pairwise_singleton _ _
  ·rw [(hm a ha).1];exact h.hi b hb
  ·rcases List.mem_append.1 hb with hb | hb
   ·rw [(hm b hb).1];exact h.lo a ha
   ·exact p3 a ha b (List.mem_append_right _ hb)
theorem Dec.inI {inv:Inventory} {A M B:List Channel} {s:SourceID} (h:Dec inv.Channels s A M B) (l:List Epoch) (s':SourceID) (e:Epoch):InI ⟨A ++ (a3r s l ++ B)⟩ s' e↔(s'≠s∧InI inv s' e)∨(s'=s∧e∈l):=by
 have hA:∀ c∈A,c.Source≠s:=fun c hc=>ne_of_lt (h.lo c hc)
 have hB:∀ c∈B,c.Source≠s:=fun c hc=>Ne.symm (ne_of_lt (h.hi c hc))
 constructor
 ·rintro ⟨c,hc,rfl,he⟩
  rcases List.mem_append.1 hc with hc | hc
  ·exact .inl ⟨hA c hc,c,by rw [h.eq];simp [hc],rfl,he⟩
  ·rcases List.mem_append.1 hc with hc | hc
   ·unfold a3r at hc
    split at hc
    ·cases hc
    ·rcases List.mem_singleton.1 hc with rfl;exact .inr ⟨rfl,he⟩
   ·exact .inl ⟨hB c hc,c,by rw [h.eq];simp [hc],rfl,he⟩
 ·rintro (⟨hne,c,hc,rfl,he⟩ | ⟨rfl,he⟩)
  ·refine ⟨c,?_,rfl,he⟩
   rw [h.eq] at hc
   rcases List.mem_append.1 hc with hc | hc
   ·simp [hc]
   ·rcases List.mem_append.1 hc with hc | hc
    ·rcases h.m with rfl | ⟨d,rfl,hd⟩
     ·cases hc
     ·rcases List.mem_singleton.1 hc with rfl;exact absurd hd hne
    ·simp [hc]
  ·refine ⟨⟨s',l⟩,?_,rfl,he⟩
   have:l≠[]:=fun h=>by rw [h] at he;cases he
   simp [a3r,this]
def NB (inv:Inventory) (n:Nat):Prop:=inv.Channels.length≤n∧∀ c∈inv.Channels,c.Epochs.length≤n
theorem Dec.nb {inv:Inventory} {A M B:List Channel} {s:SourceID} (h:Dec inv.Channels s A M B) {n:Nat} (hn:NB inv n) {l:List Epoch} (hl:l.length≤n+1):NB ⟨A ++ (a3r s l ++ B)⟩ (n+1):=by
 have hlen:=hn.1
 rw [h.eq] at hlen
 simp only [List.length_append] at hlen
 have hc1:(a3r s l).length≤1:=by unfold a3r;split <;> simp
 refine ⟨by show (A ++ (a3r s l ++ B)).length≤_;simp only [List.length_append];omega,fun c hc=>?_⟩
 rcases List.mem_append.1 hc with hc | hc
 ·have:=hn.2 c (by rw [h.eq];simp [hc]);omega
 ·rcases List.mem_append.1 hc with hc | hc
  ·unfold a3r at hc
   split at hc
   ·cases hc
   ·rcases List.mem_singleton.1 hc with rfl;exact hl
  ·have:=hn.2 c (by rw [h.eq];simp [hc]);omega
theorem Dec.ep2 {cs A M B:List Channel} {s:SourceID} (h:Dec cs s A M B) (l:List Epoch):epL s (A ++ (a3r s l ++ B))=l:=by
 rw [(h.put l).ep]
 unfold a3r
 split
 ·rename_i h;simp [h]
 ·simp
def CK (c:Change):Prop:=a5j c.Source=true∧((c.Kind=0∧VE c.Epoch∧c.From=c.Epoch.From)∨(c.Kind=1∧c.Epoch=noEp)∨(c.Kind=2∧VE c.Epoch))
theorem CK.ve {c:Change} (h:CK c) (h1:c.Kind≠1):VE c.Epoch:=by
 rcases h.2 with h | h | h
 ·exact h.2.1
 ·exact absurd h.1 h1
 ·exact h.2
def a8D (inv:Inventory) (c:Change) (e:Epoch):Prop:=InI inv c.Source e∧(c.Kind≠0→e.From≠c.From)
def After (inv:Inventory) (c:Change) (s:SourceID) (e:Epoch):Prop:=(InI inv s e∧(s=c.Source→c.Kind≠0→e.From≠c.From))∨(s=c.Source∧c.Kind≠1∧e=c.Epoch)
def Found (inv:Inventory) (c:Change):Prop:=c.Kind=0∨∃ e,InI inv c.Source e∧e.From=c.From
def a7S (inv:Inventory) (c:Change):Prop:=c.Kind≠1∧∃ e,a8D inv c e∧a4H e c.Epoch
def Over (out:Inventory) (c:Change):Prop:=128<out.Channels.length∨32<(epL c.Source out.Channels).length
structure Res20 (inv:Inventory) (c:Change) (out:Inventory):Prop where
 si:SI out
 mem:∀ s e,InI out s e↔After inv c s e
 nb:∀ n,NB inv n→NB out (n+1)
inductive ApplyTo (inv:Inventory) (c:Change):Inventory × Int→Prop where
 | bad (h:¬ (VI inv∧CK c)):ApplyTo inv c (⟨[]⟩,1)
 | none (h:VI inv∧CK c) (h1:¬ Found inv c):ApplyTo inv c (⟨[]⟩,6)
 | clash (h:VI inv∧CK c) (h1:Found inv c) (h2:a7S inv c):ApplyTo inv c (⟨[]⟩,11)
 | over (h:VI inv∧CK c) (h1:Found inv c) (h2:¬ a7S inv c) (out:Inventory) (h3:Res20 inv c out) (h4:Over out c):ApplyTo inv c (⟨[]⟩,8)
 | ok (h:VI inv∧CK c) (h1:Found inv c) (h2:¬ a7S inv c) (out:Inventory) (h3:Res20 inv c out) (h4:¬ Over out c):ApplyTo inv c (out,0)
theorem Res20.uniq {inv:Inventory} {c:Change} {a b:Inventory} (ha:Res20 inv c a) (hb:Res20 inv c b):a=b:=ha.si.uniq hb.si fun s e=>(ha.mem s e).trans (hb.mem s e).symm
theorem ApplyTo.uniq {inv:Inventory} {c:Change} {r q:Inventory × Int} (h1:ApplyTo inv c r) (h2:ApplyTo inv c q):r=q:=by
 cases h1 with
 | bad h=>cases h2 with
  | bad=>rfl
  | none h'=>exact absurd h' h
  | clash h'=>exact absurd h' h
  | over h'=>exact absurd h' h
  | ok h'=>exact absurd h' h
 | none h g=>cases h2 with
  | bad h'=>exact absurd h h'
  | none=>rfl
  | clash _ g'=>exact absurd g' g
  | over _ g'=>exact absurd g' g
  | ok _ g'=>exact absurd g' g
 | clash h g k=>cases h2 with
  | bad h'=>exact absurd h h'
  | none _ g'=>exact absurd g g'
  | clash=>rfl
  | over _ _ k'=>exact absurd k k'
  | ok _ _ k'=>exact absurd k k'
 | over h g k o r' v=>cases h2 with
  | bad h'=>exact absurd h h'
  | none _ g'=>exact absurd g g'
  | clash _ _ k'=>exact absurd k' k
  | over=>rfl
  | ok _ _ _ o' r2 v'=>obtain rfl:=r'.uniq r2;exact absurd v v'
 | ok h g k o r' v=>cases h2 with
  | bad h'=>exact absurd h h'
  | none _ g'=>exact absurd g g'
  | clash _ _ k'=>exact absurd k' k
  | over _ _ _ o' r2 v'=>obtain rfl:=r'.uniq r2;exact absurd v' v
  | ok _ _ _ o' r2 _=>rw [r'.uniq r2]
theorem Res20.vi {inv:Inventory} {c:Change} {out:Inventory} (hv:VI inv) (h:Res20 inv c out) (ho:¬ Over out c):VI out:=by
 unfold Over at ho
 refine ⟨h.si,by omega,fun d hd=>?_⟩
 by_cases hs:d.Source=c.Source
 ·rcases a3k c.Source out.Channels with ⟨_,h2⟩ | ⟨d',hd',hs',h2⟩
  ·exact absurd hs (h2 d hd)
  ·obtain rfl:=h.si.src hd hd' (hs.trans hs'.symm)
   rw [h2] at ho;omega
 ·obtain ⟨e,he⟩:=List.exists_mem_of_ne_nil _ (h.si.e d hd).ne
  have haf:∀ e,InI out d.Source e↔InI inv d.Source e:=fun e=>(h.mem _ e).trans ⟨fun h=>h.elim (fun h=>h.1) (fun h=>absurd h.1 hs),fun h=>.inl ⟨h,fun h=>absurd h hs⟩⟩
  obtain ⟨d',hd',hs',_⟩:=(haf e).1 ⟨d,hd,rfl,he⟩
  have:d.Epochs=d'.Epochs:=(h.si.e d hd).vl.uniq (hv.e d' hd').vl fun e=>by
   constructor
   ·intro he
    obtain ⟨x,hx,hxs,hxe⟩:=(haf e).1 ⟨d,hd,rfl,he⟩
    obtain rfl:=hv.toSI.src hx hd' (hxs.trans hs'.symm);exact hxe
   ·intro he
    obtain ⟨x,hx,hxs,hxe⟩:=(haf e).2 ⟨d',hd',hs',he⟩
    obtain rfl:=h.si.src hx hd hxs;exact hxe
  rw [this];exact hv.m d' hd'
theorem Dec.res {inv:Inventory} {c:Change} {A M B:List Channel} (hv:VI inv) (hs:a5j c.Source=true) (h:Dec inv.Channels c.Source A M B) {l:List Epoch} (hl:VL l) (hm:∀ e,e∈l↔a8D inv c e∨(c.Kind≠1∧e=c.Epoch)) (hn:l.length≤(epL c.Source inv.Channels).length+1):Res20 inv c ⟨A ++ (a3r c.Source l ++ B)⟩:=by
 refine ⟨h.si hv.toSI hs hl,fun s e=>?_,fun n hn'=>h.nb hn' ?_⟩
 ·rw [h.inI l s e,hm e]
  unfold After a8D
  constructor
  ·rintro (⟨h1,h2⟩ | ⟨rfl,⟨h1,h2⟩ | ⟨h1,h2⟩⟩)
   ·exact .inl ⟨h2,fun h=>absurd h h1⟩
   ·exact .inl ⟨h1,fun _=>h2⟩
   ·exact .inr ⟨rfl,h1,h2⟩
  ·rintro (⟨h1,h2⟩ | ⟨h1,h2,h3⟩)
   ·by_cases hs:s=c.Source
    ·subst hs;exact .inr ⟨rfl,.inl ⟨h1,h2 rfl⟩⟩
    ·exact .inl ⟨hs,h1⟩
   ·exact .inr ⟨h1,.inr ⟨h2,h3⟩⟩
 ·have:(epL c.Source inv.Channels).length≤n:=by
   rcases a3k c.Source inv.Channels with ⟨h1,_⟩ | ⟨d,hd,_,h1⟩
   ·rw [h1];exact Nat.zero_le _
   ·rw [h1];exact hn'.2 d hd
  omega
end Go.Proofs.YteanekphncdhiaaGreat.Sh
namespace Go.Proofs.YteanekphncdhiaaGreat.Sh
open Go
set_option linter.unusedVariables false
set_option linter.unusedSimpArgs false
theorem b3t {inv:Inventory} (hs:SI inv) (s:SourceID) {k:Nat} (hk:k≤inv.Channels.length) (h1:∀ i (hi:i<inv.Channels.length),i<k→F3 inv.Channels[i].Source s<0) (h2:∀ i (hi:i<inv.Channels.length),k≤i→0≤F3 inv.Channels[i].Source s) :
  (∃ h:k<inv.Channels.length,inv.Channels[k].Source=s∧Dec inv.Channels s (inv.Channels.take k) [inv.Channels[k]] (inv.Channels.drop (k+1)))∨((∀ h:k<inv.Channels.length,inv.Channels[k].Source≠s)∧Dec inv.Channels s (inv.Channels.take k) [] (inv.Channels.drop k)):=by
 have hlo:∀ c∈inv.Channels.take k,F3 c.Source s<0:=fun c hc=>by
  obtain ⟨i,hi,rfl⟩:=List.mem_iff_getElem.1 hc
  rw [List.length_take] at hi
  rw [List.getElem_take]
  exact h1 i (by omega) (by omega)
 by_cases hf:∃ h:k<inv.Channels.length,inv.Channels[k].Source=s
 ·obtain ⟨h,hks⟩:=hf
  refine .inl ⟨h,hks,?_,hlo,fun c hc=>?_,.inr ⟨_,rfl,hks⟩⟩
  ·rw [List.singleton_append,List.getElem_cons_drop,List.take_append_drop]
  ·obtain ⟨i,hi,rfl⟩:=List.mem_iff_getElem.1 hc
   rw [List.length_drop] at hi
   rw [List.getElem_drop,← hks]
   exact List.pairwise_iff_getElem.1 hs.p k (k+1+i) h (by omega) (by omega)
 ·refine .inr ⟨fun h e=>hf ⟨h,e⟩,?_,hlo,fun c hc=>?_,.inl rfl⟩
  ·rw [List.nil_append,List.take_append_drop]
  ·obtain ⟨i,hi,rfl⟩:=List.mem_iff_getElem.1 hc
   rw [List.length_drop] at hi
   rw [List.getElem_drop]
   have h3:=h2 (k+i) (by omega) (by omega)
   suffices hne:F3 (inv.Channels[k+i]'(by omega)).Source s≠0 from b2z (by omega)
   intro h0
   have h4:=a2n h0
   by_cases hi0:i=0
   ·subst hi0;exact hf ⟨by omega,h4⟩
   ·have h5:=List.pairwise_iff_getElem.1 hs.p k (k+i) (by omega) (by omega) (by omega)
    unfold a6b at h5
    rw [h4] at h5
    have:=h2 k (by omega) (Nat.le_refl _)
    omega
theorem b4g {s:Int} (h0:0≤s) (h1:s≤9223372036854775807):shrM .u64 (IntKind.u64.wrap (w64 s)) 1=some (s / 2):=by
 rw [G6 (by omega) (by omega),u64_id h0 h1]
 unfold shrM
 rw [if_neg (by decide)]
 have:(2:Int) ^ min (1:Int).toNat IntKind.u64.bits=2:=by decide
 rw [this,Int.fdiv_eq_ediv_of_nonneg _ (by decide)]
theorem place_ok {inv:Inventory} (hv:VI inv) (s:SourceID):∃ (k:Nat) (b:Bool),a3P inv s=some ((k:Int),b)∧k≤inv.Channels.length ∧
  ((b=true∧∃ h:k<inv.Channels.length,inv.Channels[k].Source=s∧Dec inv.Channels s (inv.Channels.take k) [inv.Channels[k]] (inv.Channels.drop (k+1)))∨(b=false∧Dec inv.Channels s (inv.Channels.take k) [] (inv.Channels.drop k))):=by
 have hn:=hv.n
 unfold a3P F6
 simp only [Option.bind_some]
 have hp:∀ c:Channel,U6 c s=some (F3 c.Source s):=fun c=>by unfold U6;rw [a3R];rfl
 obtain ⟨e,he,k,rfl,hk,h1,h2⟩:=R3 (b1:=E9 inv.Channels s U6)
  (fun m st=>∃ i j:Nat,st=((i:Int),(j:Int))∧i≤j∧j≤inv.Channels.length∧m=j - i∧(∀ t (ht:t<inv.Channels.length),t<i→F3 inv.Channels[t].Source s<0)∧∀ t (ht:t<inv.Channels.length),j≤t→0≤F3 inv.Channels[t].Source s)
  (fun r=>∃ k:Nat,r=(k:Int)∧k≤inv.Channels.length∧(∀ t (ht:t<inv.Channels.length),t<k→F3 inv.Channels[t].Source s<0)∧∀ t (ht:t<inv.Channels.length),k≤t→0≤F3 inv.Channels[t].Source s)
  (fun m st ⟨i,j,es,hij,hj,hm,h1,h2⟩=>by
   subst es
   unfold E9
   simp only
   by_cases hlt:i<j
   ·obtain ⟨h,hh⟩:∃ h:Nat,(i+j) / 2=h:=⟨_,rfl⟩
    have e1:shrM .u64 (IntKind.u64.wrap (w64 (w64 ((i:Int)+(j:Int))))) 1=some (h:Int):=by
     rw [show w64 ((i:Int)+(j:Int))=((i+j:Nat):Int) by rw [G6 (by omega) (by omega)];rfl,b4g (by omega) (by omega)]
     congr 1;omega
    have e1':shrM .u64 (IntKind.u64.wrap (w64 ((i:Int)+(j:Int)))) 1=some (h:Int):=by
     rw [b4g (by omega) (by omega)]
     congr 1;omega
    rw [if_pos (decide_eq_true (by omega)),e1']
    simp only [Option.bind_some]
    rw [G6 (show -9223372036854775808≤(h:Int) by omega) (by omega),w9 _ _ (show h<inv.Channels.length by omega)]
    simp only [Option.bind_some,hp]
    by_cases hc:F3 inv.Channels[h].Source s<0
    ·rw [if_pos (decide_eq_true hc)]
     refine .inl ⟨((h+1:Nat),(j:Int)),j - (h+1),?_,⟨h+1,j,rfl,by omega,hj,rfl,fun t ht hth=>?_,h2⟩,by omega⟩
     ·rw [M6 (by omega)];rfl
     ·by_cases hte:t=h
      ·subst hte;exact hc
      ·have:=List.pairwise_iff_getElem.1 hv.p t h ht (by omega) (by omega)
       exact R6.trans _ _ _ this hc
    ·rw [if_neg (by simpa using hc)]
     refine .inl ⟨((i:Int),(h:Int)),h - i,rfl,⟨i,h,rfl,by omega,by omega,rfl,h1,fun t ht hth=>?_⟩,by omega⟩
     by_cases hte:t=h
     ·subst hte;omega
     ·have h5:=List.pairwise_iff_getElem.1 hv.p h t (by omega) ht (by omega)
      refine Classical.byContradiction fun hn=>hc ?_
      exact R6.trans _ _ _ h5 (by omega)
   ·rw [if_neg (by simp;omega)]
    exact .inr ⟨_,rfl,i,rfl,by omega,h1,fun t ht hti=>h2 t ht (by omega)⟩) inv.Channels.length ((0:Int),(inv.Channels.length:Int)) ⟨0,inv.Channels.length,rfl,by omega,by omega,by omega,fun t ht h=>absurd h (by omega),fun t ht h=>absurd h (by omega)⟩
 rw [he]
 simp only [Option.bind_some]
 rcases b3t hv.toSI s hk h1 h2 with ⟨hkl,hks,hd⟩ | ⟨hks,hd⟩
 ·refine ⟨k,true,?_,hk,.inl ⟨rfl,hkl,hks,hd⟩⟩
  rw [if_pos (decide_eq_true (by omega)),w9 _ _ hkl]
  simp only [Option.bind_some,hp,hks,a3j]
  rfl
 ·refine ⟨k,false,?_,hk,.inr ⟨rfl,hd⟩⟩
  by_cases hkl:k<inv.Channels.length
  ·rw [if_pos (decide_eq_true (by omega)),w9 _ _ hkl]
   simp only [Option.bind_some,hp]
   have:F3 inv.Channels[k].Source s≠0:=fun h=>hks hkl (a2n h)
   rw [show (F3 inv.Channels[k].Source s == 0)=false by simpa using this]
  ·rw [if_neg (by simp;omega)];rfl
theorem eindex (p:Epoch→Bool) (f:Epoch→Option Bool) (l:List Epoch) (hf:∀ x,f x=some (p x)) (hl:l.length≤1000000):∃ r,H6 l f=some r∧((r=-1∧∀ s∈l,p s=false)∨∃ i:Nat,∃ h:i<l.length,r=(i:Int)∧p l[i]=true):=by
 unfold H6
 obtain ⟨r,e,hr⟩:=R3 (b1:=O5 l f) (fun k s=>∃ i:Nat,s=(i:Int)∧k+i=l.length∧∀ x∈l.take i,p x=false)
  (fun r=>(r=-1∧∀ s∈l,p s=false)∨∃ i:Nat,∃ h:i<l.length,r=(i:Int)∧p l[i]=true) (fun k s ⟨i,hi,hk,hall⟩=>by
  subst hi
  unfold O5
  by_cases hil:i<l.length
  ·rw [if_pos (decide_eq_true (by omega)),w9 _ _ hil]
   simp only [Option.bind_some,hf]
   cases hb:p l[i] with
   | true=>exact .inr ⟨_,rfl,.inr ⟨i,hil,rfl,hb⟩⟩
   | false=>
    refine .inl ⟨((i+1:Nat):Int),k - 1,?_,⟨i+1,rfl,by omega,fun x hx=>?_⟩,by omega⟩
    ·rw [M6 (by omega)];rfl
    ·rw [C9 hil] at hx
     rcases List.mem_append.1 hx with hx | hx
     ·exact hall x hx
     ·rcases List.mem_singleton.1 hx with rfl;exact hb
  ·rw [if_neg (by simp;omega)]
   rw [List.take_of_length_le (by omega)] at hall
   exact .inr ⟨_,rfl,.inl ⟨rfl,hall⟩⟩) l.length 0 ⟨0,rfl,rfl,by simp⟩
 exact ⟨r,e,hr⟩
theorem b4G (p:Epoch→Bool) (f:Epoch→Option Bool) (l:List Epoch) (hf:∀ x,f x=some (p x)) (hl:l.length≤1000000):I6 l f=some (l.any p):=by
 unfold I6
 obtain ⟨r,e,hr⟩:=eindex p f l hf hl
 rw [e]
 simp only [Option.bind_some]
 rcases hr with ⟨rfl,h⟩ | ⟨i,hi,rfl,h⟩
 ·rw [show l.any p=false from List.any_eq_false.2 fun x hx=>by rw [h x hx];simp];rfl
 ·rw [show l.any p=true from List.any_eq_true.2 ⟨_,List.getElem_mem hi,h⟩,decide_eq_true (by omega)]
theorem delE_ok {l:List Epoch} {i:Nat} (hi:i<l.length) (hl:l.length≤1000000):Q5 l (i:Int) (w64 ((i:Int)+1))=some (l.take i ++ l.drop (i+1)):=by
 rw [M6 (by omega)]
 exact a7y (s:=l) (i:=(i:Int)) (j:=((i+1:Nat):Int)) noEp (by omega) (by omega) (by omega)
theorem delC_ok {l:List Channel} {i:Nat} (hi:i<l.length) (hl:l.length≤1000000):J9 l (i:Int) (w64 ((i:Int)+1))=some (l.take i ++ l.drop (i+1)):=by
 rw [M6 (by omega)]
 exact a7y (s:=l) (i:=(i:Int)) (j:=((i+1:Nat):Int)) ⟨b1z,[]⟩ (by omega) (by omega) (by omega)
theorem with_ok {l:List Epoch} {e:Epoch} (hl:VL l) (h32:l.length≤1000) (he:VE e):∃ m b,a4w l e=some (m,b)∧((b=false∧∃ x∈l,a4H x e)∨(b=true∧(∀ x∈l,¬ a4H x e)∧VL m∧(∀ x,x∈m↔x∈l∨x=e)∧m.length=l.length+1)):=by
 have hce:=he.ce
 unfold a4w
 rw [b4G (fun x=>decide (max x.From e.From<min x.To e.To)) (fun y0=>a1W y0 e) l (fun x=>rfl) (by omega)]
 simp only [Option.bind_some]
 cases hb:l.any fun x=>decide (max x.From e.From<min x.To e.To) with
 | true=>
  obtain ⟨x,hx,ho⟩:=List.any_eq_true.1 hb
  have ho:=of_decide_eq_true ho
  refine ⟨[],false,by simp,.inl ⟨rfl,x,hx,?_⟩⟩
  unfold a4H;omega
 | false=>
  have hn:∀ x∈l,¬ a4H x e:=fun x hx ho=>by
   have h1:=List.any_eq_false.1 hb x hx
   have:=(hl.v x hx).ft;have:=he.ft
   unfold a4H at ho
   exact h1 (decide_eq_true (by omega))
  rw [b1q hce]
  simp only [Bool.false_eq_true,if_false,Option.bind_some]
  rw [E5 _ _ _ (by simp;omega) (by decide)]
  simp only [Option.bind_some]
  have hv:∀ x∈l ++ [e],VE x:=fun x hx=>by
   rcases List.mem_append.1 hx with hx | hx
   ·exact hl.v x hx
   ·rcases List.mem_singleton.1 hx with rfl;exact he
  have hap:=b3o hl hn
  have hcmp:CmpOK (·∈l ++ [e]) V7 (fun x y=>decide (x.From - y.From<0)):=b1S.ok fun x y hx hy=>by
   have h1:=hv x hx;have h2:=hv y hy
   have:=h1.f0;have:=h1.ft;have:=h1.t1;have:=h2.f0;have:=h2.ft;have:=h2.t1
   unfold V7
   rw [G6 (by omega) (by omega)];rfl
  obtain ⟨m,m1,m2,m3,m4⟩:=a9E hcmp (l:=l ++ [e]) (fun x hx=>hx) (by simp;omega)
  have hsm:L8 (l ++ [e]) V7=some m:=by
   unfold L8
   rw [sortM_eq hcmp (l:=l ++ [e]) (fun x hx=>hx) (fun x y hx hy h1 h2=>?_),m1]
   refine Classical.byContradiction fun hne=>?_
   have h1:=of_decide_eq_false h1;have h2:=of_decide_eq_false h2
   refine b1B (fun a b=>a8l) hap x hx y hy hne ⟨?_,?_⟩
   ·have:=(hv y hy).ft;omega
   ·have:=(hv x hx).ft;omega
  rw [hsm]
  refine ⟨m,true,rfl,.inr ⟨rfl,hn,VL.of_sorted (fun x hx=>hv x (m2.mem_iff.1 hx)) ((m2.pairwise_iff (fun {a b}=>a8l)).2 hap) (SR.cpw b1S (by rw [m3];exact m4)),fun x=>?_,by rw [m3];simp⟩⟩
  rw [m2.mem_iff,List.mem_append,List.mem_singleton]
theorem insC_ok (s:List Channel) (m:Channel) {k:Nat} (hk:k≤s.length) (hl:s.length≤100000):K4 s (k:Int) [m]=some (s.take k ++ m :: s.drop k,[m]):=by
 unfold K4
 have g0:D8 s (k:Int) (s.length:Int)=some (s.drop k):=by rw [a0B _ _ _ hk (Nat.le_refl _),List.take_of_length_le (Nat.le_refl _)]
 rw [g0]
 simp only [Option.bind_some,List.length_singleton]
 rw [if_neg (by decide)]
 by_cases he:k=s.length
 ·rw [if_pos (by simp [he]),E5 _ _ _ (by simp;omega) (by decide)]
  subst he
  simp
 ·rw [if_neg (by simp;omega)]
  have g1:D8 s 0 (k:Int)=some (s.take k):=by
   have:=a0B s 0 k (Nat.zero_le _) hk
   simpa using this
  have e1:w64 ((s.length:Int)+(1:Nat))=((s.length+1:Nat):Int):=by rw [G6 (by omega) (by omega)];rfl
  have e2:w64 (((s.length+1:Nat):Int) - (k:Int))=((s.length+1 - k:Nat):Int):=b4v (by omega) (by omega)
  have e3:w64 ((k:Int)+(1:Nat))=((k+1:Nat):Int):=by rw [G6 (by omega) (by omega)];rfl
  rw [g1,e1,e2,e3]
  simp only [Option.bind_some]
  have g2:∀ z:Channel,appZ 88 z (s.take k) ((s.length+1 - k:Nat):Int)=some (s.take k ++ List.replicate (s.length+1 - k) z):=fun z=>by
   unfold appZ
   rw [if_pos (by rw [List.length_take];refine ⟨by omega,by omega,by omega⟩),Int.toNat_natCast]
  rw [g2]
  simp only [Option.bind_some]
  have htl:(s.take k).length=k:=by rw [List.length_take];omega
  generalize hX:s.take k ++ List.replicate (s.length+1 - k) (⟨⟨ByteArray.empty,ByteArray.empty,ByteArray.empty,ByteArray.empty⟩,[]⟩:Channel)=X
  have hXl:X.length=s.length+1:=by rw [← hX,List.length_append,List.length_replicate,htl];omega
  rw [a0B X k X.length (by omega) (Nat.le_refl _)]
  simp only [Option.bind_some]
  have hc1:I1 X (k:Int) (X.length:Int) [m]=s.take k ++ [m] ++ X.drop (k+1):=by
   unfold I1
   simp only [Int.toNat_natCast,List.length_singleton]
   have q1:min 1 (X.length - k)=1:=by omega
   have q2:X.take k=s.take k:=by rw [← hX,List.take_left' htl]
   rw [q1,q2,List.take_of_length_le (show [m].length≤X.length - k by simp;omega)]
  rw [hc1]
  generalize hY:s.take k ++ [m] ++ X.drop (k+1)=Y
  have hYl:Y.length=s.length+1:=by rw [← hY,List.length_append,List.length_append,htl,List.length_drop,List.length_singleton];omega
  rw [a0B Y (k+1) Y.length (by omega) (Nat.le_refl _)]
  simp only [Option.bind_some]
  have hA:(s.take k ++ [m]).length=k+1:=by rw [List.length_append,htl];rfl
  have hc2:I1 Y ((k+1:Nat):Int) (Y.length:Int) (s.drop k)=s.take k ++ m :: s.drop k:=by
   unfold I1
   simp only [Int.toNat_natCast]
   have q1:Y.take (k+1)=s.take k ++ [m]:=by rw [← hY,List.take_left' hA]
   have q2:(s.drop k).take (Y.length - (k+1))=s.drop k:=List.take_of_length_le (by rw [List.length_drop];omega)
   have q3:Y.drop (k+1+min (s.drop k).length (Y.length - (k+1)))=[]:=List.drop_eq_nil_of_le (by rw [List.length_drop];omega)
   rw [q1,q2,q3,List.append_nil,List.append_assoc]
   rfl
  rw [hc2]
structure CF (c:Change):Prop where
 s:SrcSm c.Source
 e:EF c.Epoch
theorem check_ok {inv:Inventory} {c:Change} (hf:FI inv) (hc:CF c):∃ b,a3O inv c=some b∧(b=true↔VI inv∧CK c):=by
 obtain ⟨v,v1,v2⟩:=a7t hf
 obtain ⟨w,w1,_,w3⟩:=b2q hc.e.1
 obtain ⟨z,z1,_,z3⟩:=b4y hc.e
 unfold a3O
 rw [v1,a6F hc.s,w1,z1]
 simp only [Option.bind_some]
 cases v with
 | false=>exact ⟨false,by simp,fun h=>(by cases h),fun h=>v2.2 h.1⟩
 | true=>
  cases hs:a5j c.Source with
  | false=>exact ⟨false,by simp,fun h=>(by cases h),fun h=>by have:=h.2.1;rw [hs] at this;cases this⟩
  | true=>
   simp only [Bool.not_true,Bool.false_eq_true,if_false,Option.bind_some]
   have hv:=v2.1 rfl
   by_cases k0:c.Kind=0
   ·rw [if_pos (by simpa using k0)]
    refine ⟨_,rfl,?_⟩
    rw [Bool.and_eq_true,w3,beq_iff_eq]
    exact ⟨fun h=>⟨hv,hs,.inl ⟨k0,h.1,h.2⟩⟩,fun h=>by rcases h.2.2 with h | h | h;exact ⟨h.2.1,h.2.2⟩;omega;omega⟩
   ·rw [if_neg (by simpa using k0)]
    by_cases k1:c.Kind=1
    ·rw [if_pos (by simpa using k1)]
     refine ⟨_,rfl,z3.trans ?_⟩
     exact ⟨fun h=>⟨hv,hs,.inr (.inl ⟨k1,h⟩)⟩,fun h=>by rcases h.2.2 with h | h | h;omega;exact h.2;omega⟩
    ·rw [if_neg (by simpa using k1)]
     by_cases k2:c.Kind=2
     ·rw [if_pos (by simpa using k2)]
      refine ⟨_,rfl,w3.trans ?_⟩
      exact ⟨fun h=>⟨hv,hs,.inr (.inr ⟨k2,h⟩)⟩,fun h=>by rcases h.2.2 with h | h | h;omega;omega;exact h.2⟩
     ·rw [if_neg (by simpa using k2)]
      exact ⟨false,rfl,fun h=>(by cases h),fun h=>by rcases h.2.2 with h | h | h;omega;omega;omega⟩
theorem b0l {a b:Int} (h:a≠b):(a == b)=false:=by simpa using h
theorem a4d {a b:Int} (h:a≠b):(a != b)=true:=by simpa using h
theorem a2Z {a b:Int} (h:a=b):(a != b)=false:=by simpa using h
theorem b4u {inv:Inventory} {c:Change} (hv:VI inv) (hk:CK c) (hf:Found inv c) (hcl:¬ a7S inv c) {k:Nat} {b:Bool} (hkl:k≤inv.Channels.length)
  (hd:(b=true∧∃ h:k<inv.Channels.length,inv.Channels[k].Source=c.Source∧Dec inv.Channels c.Source (inv.Channels.take k) [inv.Channels[k]] (inv.Channels.drop (k+1)))∨(b=false∧Dec inv.Channels c.Source (inv.Channels.take k) [] (inv.Channels.drop k)))
  {l:List Epoch} (hl:VL l) (hm:∀ e,e∈l↔a8D inv c e∨(c.Kind≠1∧e=c.Epoch)) (hn:l.length≤(epL c.Source inv.Channels).length+1) (hb:b=false→l≠[]):∃ r,a0v c inv ((k:Int),b) l=some r∧ApplyTo inv c r:=by
 have hlen:=hv.n
 have key:∀ A M B,Dec inv.Channels c.Source A M B→∃ r,a0w l (A ++ (a3r c.Source l ++ B))=some r∧ApplyTo inv c r:=fun A M B hd=>by
  have hr:=hd.res hv hk.1 hl hm hn
  have he:=hd.ep2 l
  unfold a0w
  by_cases ho:Over ⟨A ++ (a3r c.Source l ++ B)⟩ c
  ·refine ⟨_,if_pos ?_,.over ⟨hv,hk⟩ hf hcl _ hr ho⟩
   unfold Over at ho
   simp only at ho
   rw [he] at ho
   rw [Bool.or_eq_true,decide_eq_true_eq,decide_eq_true_eq]
   omega
  ·refine ⟨_,if_neg ?_,.ok ⟨hv,hk⟩ hf hcl _ hr ho⟩
   unfold Over at ho
   simp only at ho
   rw [he] at ho
   rw [Bool.or_eq_true,decide_eq_true_eq,decide_eq_true_eq]
   omega
 unfold a0v
 by_cases hl0:l=[]
 ·have hbt:b=true:=by cases b with | true=>rfl | false=>exact absurd hl0 (hb rfl)
  subst hbt
  rcases hd with ⟨_,hkl',hks,hd⟩ | ⟨h,_⟩
  ·rw [if_pos (by simp [hl0]),delC_ok hkl' (by omega)]
   simp only [Option.bind_some]
   have:=key _ _ _ hd
   unfold a3r at this
   rw [if_pos hl0,List.nil_append] at this
   exact this
  ·cases h
 ·have hll:(l.length:Int)≠0:=by have:=List.length_pos_iff.2 hl0;omega
  rw [if_neg (by rw [b0l hll];simp)]
  rcases hd with ⟨rfl,hkl',hks,hd⟩ | ⟨rfl,hd⟩
  ·rw [if_pos rfl]
   simp only
   rw [w9 _ _ hkl']
   simp only [Option.bind_some]
   rw [a2w _ _ _ (by omega) (by omega),Int.toNat_natCast]
   simp only [Option.bind_some]
   have:=key _ _ _ hd
   unfold a3r at this
   rw [if_neg hl0] at this
   unfold a0x
   rw [List.set_eq_take_append_cons_drop,if_pos hkl',hks]
   exact this
  ·rw [if_neg (by simp)]
   simp only
   rw [insC_ok _ _ hkl (by omega)]
   simp only [Option.bind_some]
   have:=key _ _ _ hd
   unfold a3r at this
   rw [if_neg hl0] at this
   unfold a0x
   exact this
theorem apply_ok {inv:Inventory} {c:Change} (hf:FI inv) (hc:CF c):∃ r,M0 inv c=some r∧ApplyTo inv c r:=by
 obtain ⟨b,b1,b2⟩:=check_ok hf hc
 unfold M0
 rw [b1]
 simp only [Option.bind_some]
 cases b with
 | false=>exact ⟨_,rfl,.bad fun h=>by have:=b2.2 h;cases this⟩
 | true=>
  obtain ⟨hv,hk⟩:=b2.1 rfl
  rw [if_neg (by simp),b4a hv.ci]
  simp only [Option.bind_some]
  obtain ⟨k,kn,p1,hkl,hd⟩:=place_ok hv c.Source
  rw [p1]
  simp only [Option.bind_some]
  have hlen:=hv.n
  obtain ⟨l,hl⟩:∃ l,l=epL c.Source inv.Channels:=⟨_,rfl⟩
  have hvl:VL l:=by rw [hl];exact hv.toSI.vl _
  have hin:∀ e,e∈l↔InI inv c.Source e:=fun e=>by rw [hl];exact hv.toSI.ep _ e
  have hl32:l.length≤32:=by
   rcases a3k c.Source inv.Channels with ⟨h1,_⟩ | ⟨d,hd',_,h1⟩
   ·rw [hl,h1];simp
   ·rw [hl,h1];exact hv.m d hd'
  have hkn:kn=false→l=[]:=fun h=>by
   rcases hd with ⟨h1,_⟩ | ⟨_,hd⟩
   ·rw [h] at h1;cases h1
   ·rw [hl,hd.ep];rfl
  have hload:(if kn=true then (ix inv.Channels (k:Int)).bind fun x=>P7 c inv ((k:Int),kn) x.Epochs else P7 c inv ((k:Int),kn) [])=P7 c inv ((k:Int),kn) l:=by
   rcases hd with ⟨rfl,hkl',hks,hd⟩ | ⟨rfl,hd⟩
   ·rw [if_pos rfl,w9 _ _ hkl',hl,hd.ep];simp
   ·rw [if_neg (by simp),hkn rfl]
  have h2:∀ l1:List Epoch,VL l1→(∀ e,e∈l1↔a8D inv c e)→l1.length≤l.length→Found inv c→(c.Kind=1→kn=true)→∃ r,a0u c inv ((k:Int),kn) l1=some r∧ApplyTo inv c r:=fun l1 g1 g2 g3 g4 g5=>by
   unfold a0u
   by_cases k1:c.Kind=1
   ·rw [if_neg (by rw [a2Z k1];simp)]
    have hcl:¬ a7S inv c:=fun h=>h.1 k1
    exact b4u hv hk g4 hcl hkl hd g1 (fun e=>(g2 e).trans ⟨.inl,fun h=>h.elim id fun h=>absurd k1 h.1⟩) (by rw [← hl];omega) (fun h=>by rw [g5 k1] at h;cases h)
   ·rw [if_pos (a4d k1)]
    obtain ⟨m,q,w1,w2⟩:=with_ok g1 (by omega) (hk.ve k1)
    rw [w1]
    simp only [Option.bind_some]
    rcases w2 with ⟨rfl,x,hx,ho⟩ | ⟨rfl,hno,m1,m2,m3⟩
    ·exact ⟨_,rfl,.clash ⟨hv,hk⟩ g4 ⟨k1,x,(g2 x).1 hx,ho⟩⟩
    ·rw [if_neg (by simp)]
     have hcl:¬ a7S inv c:=fun ⟨_,x,hx,ho⟩=>hno x ((g2 x).2 hx) ho
     exact b4u hv hk g4 hcl hkl hd m1 (fun e=>(m2 e).trans (or_congr (g2 e) ⟨fun h=>⟨k1,h⟩,fun h=>h.2⟩)) (by rw [← hl];omega) (fun _ h=>by rw [h] at m3;simp at m3)
  have h1:∃ r,P7 c inv ((k:Int),kn) l=some r∧ApplyTo inv c r:=by
   unfold P7
   by_cases k0:c.Kind=0
   ·rw [if_neg (by rw [a2Z k0];simp)]
    exact h2 l hvl (fun e=>(hin e).trans ⟨fun h=>⟨h,fun h=>absurd k0 h⟩,fun h=>h.1⟩) (Nat.le_refl _) (.inl k0) (fun h=>by omega)
   ·rw [if_pos (a4d k0)]
    unfold a6x
    obtain ⟨i,i1,i2⟩:=eindex (fun e=>e.From == c.From) (fun y0=>a2v y0 c.From) l (fun x=>rfl) (by omega)
    rw [i1]
    simp only [Option.bind_some]
    rcases i2 with ⟨rfl,hno⟩ | ⟨i,hi,rfl,hfi⟩
    ·rw [if_pos (by simp)]
     refine ⟨_,rfl,.none ⟨hv,hk⟩ fun h=>?_⟩
     rcases h with h | ⟨e,he,hef⟩
     ·exact k0 h
     ·have:=hno e ((hin e).2 he)
      simp [hef] at this
    ·rw [if_neg (by simp),delE_ok hi (by omega)]
     simp only [Option.bind_some]
     have hfi:l[i].From=c.From:=by simpa using hfi
     obtain ⟨d1,d2,d3⟩:=hvl.del hi hfi
     refine h2 _ d1 (fun e=>(d2 e).trans ?_) (by omega) (.inr ⟨_,(hin _).1 (List.getElem_mem hi),hfi⟩) (fun _=>?_)
     ·unfold a8D
      rw [hin e]
      exact ⟨fun h=>⟨h.1,fun _=>h.2⟩,fun h=>⟨h.1,h.2 k0⟩⟩
     ·cases kn with
      | true=>rfl
      | false=>rw [hkn rfl] at hi;simp at hi
  rw [← hload] at h1
  exact h1
end Go.Proofs.YteanekphncdhiaaGreat.Sh
namespace Go.Proofs.YteanekphncdhiaaGreat.Sh
open Go
set_option linter.unusedVariables false
set_option linter.unusedSimpArgs false
theorem dec_at {inv:Inventory} (hs:SI inv) {s:SourceID} {k:Nat} (hk:k<inv.Channels.length) (h:inv.Channels[k].Source=s):Dec inv.Channels s (inv.Channels.take k) [inv.Channels[k]] (inv.Channels.drop (k+1)):=by
 rcases b3t hs s (k:=k) (by omega) (fun i hi hik=>by
   have:=List.pairwise_iff_getElem.1 hs.p i k hi hk hik
   rw [← h];exact this) (fun i hi hik=>by
   by_cases he:i=k
   ·subst he;rw [h,a3j];omega
   ·have:=b1O (List.pairwise_iff_getElem.1 hs.p k i hk hi (by omega))
    rw [← h];omega) with ⟨_,_,hd⟩ | ⟨hn,_⟩
 ·exact hd
 ·exact absurd h (hn hk)
theorem b4U {inv:Inventory} (hv:VI inv) (c:Change):∃ i k:Int,a5s inv c=some (i,k)∧((i=-1∧k=-1∧∀ d∈inv.Channels,d.Source≠c.Source) ∨
  ∃ (n:Nat) (hn:n<inv.Channels.length),i=(n:Int)∧inv.Channels[n].Source=c.Source∧((k=-1∧∀ e∈inv.Channels[n].Epochs,e.From≠c.From)∨∃ (m:Nat) (hm:m<inv.Channels[n].Epochs.length),k=(m:Int)∧inv.Channels[n].Epochs[m].From=c.From)):=by
 have hlen:=hv.n
 unfold a5s
 obtain ⟨r,e,i,k,rfl,h⟩:=R3 (b1:=a5h inv c) (fun m s=>∃ j:Nat,s=(j:Int)∧m+j=inv.Channels.length∧∀ d∈inv.Channels.take j,d.Source≠c.Source)
  (fun r=>∃ i k:Int,r=(i,k)∧((i=-1∧k=-1∧∀ d∈inv.Channels,d.Source≠c.Source) ∨
   ∃ (n:Nat) (hn:n<inv.Channels.length),i=(n:Int)∧inv.Channels[n].Source=c.Source∧((k=-1∧∀ e∈inv.Channels[n].Epochs,e.From≠c.From)∨∃ (m:Nat) (hm:m<inv.Channels[n].Epochs.length),k=(m:Int)∧inv.Channels[n].Epochs[m].From=c.From)))
  (fun m s ⟨j,es,hj,hall⟩=>by
   subst es
   unfold a5h
   by_cases hjl:j<inv.Channels.length
   ·rw [if_pos (decide_eq_true (by omega)),w9 _ _ hjl]
    simp only [Option.bind_some,a7G]
    by_cases hs:inv.Channels[j].Source=c.Source
    ·rw [if_neg (by simp [hs])]
     have h32:=hv.m _ (List.getElem_mem hjl)
     obtain ⟨r,e,h⟩:=R3 (b1:=a4L inv c (j:Int)) (fun m s=>∃ q:Nat,s=(q:Int)∧m+q=inv.Channels[j].Epochs.length∧∀ d∈inv.Channels[j].Epochs.take q,d.From≠c.From)
      (fun r=>(r=.inr ((j:Int),-1)∧∀ e∈inv.Channels[j].Epochs,e.From≠c.From)∨∃ (m:Nat) (hm:m<inv.Channels[j].Epochs.length),r=.inr ((j:Int),(m:Int))∧inv.Channels[j].Epochs[m].From=c.From) (fun m s ⟨q,es,hq,hall⟩=>by
      subst es
      unfold a4L
      rw [w9 _ _ hjl]
      simp only [Option.bind_some]
      by_cases hql:q<inv.Channels[j].Epochs.length
      ·rw [if_pos (decide_eq_true (by omega)),w9 _ _ hql]
       simp only [Option.bind_some]
       by_cases hf:inv.Channels[j].Epochs[q].From=c.From
       ·rw [if_pos (by simpa using hf)]
        exact .inr ⟨_,rfl,.inr ⟨q,hql,rfl,hf⟩⟩
       ·rw [if_neg (by simpa using hf),M6 (by omega)]
        refine .inl ⟨_,m - 1,rfl,⟨q+1,rfl,by omega,fun d hd=>?_⟩,by omega⟩
        rw [C9 hql] at hd
        rcases List.mem_append.1 hd with hd | hd
        ·exact hall d hd
        ·rcases List.mem_singleton.1 hd with rfl;exact hf
      ·rw [if_neg (by simp;omega)]
       rw [List.take_of_length_le (by omega)] at hall
       exact .inr ⟨_,rfl,.inl ⟨rfl,hall⟩⟩) inv.Channels[j].Epochs.length 0 ⟨0,rfl,rfl,by simp⟩
     rw [e]
     rcases h with ⟨rfl,h⟩ | ⟨q,hq,rfl,h⟩
     ·exact .inr ⟨_,rfl,_,_,rfl,.inr ⟨j,hjl,rfl,hs,.inl ⟨rfl,h⟩⟩⟩
     ·exact .inr ⟨_,rfl,_,_,rfl,.inr ⟨j,hjl,rfl,hs,.inr ⟨q,hq,rfl,h⟩⟩⟩
    ·rw [if_pos (by simp [hs]),M6 (by omega)]
     refine .inl ⟨_,m - 1,rfl,⟨j+1,rfl,by omega,fun d hd=>?_⟩,by omega⟩
     rw [C9 hjl] at hd
     rcases List.mem_append.1 hd with hd | hd
     ·exact hall d hd
     ·rcases List.mem_singleton.1 hd with rfl;exact hs
   ·rw [if_neg (by simp;omega)]
    rw [List.take_of_length_le (by omega)] at hall
    exact .inr ⟨_,rfl,_,_,rfl,.inl ⟨rfl,rfl,hall⟩⟩) inv.Channels.length 0 ⟨0,rfl,rfl,by simp⟩
 exact ⟨i,k,e,h⟩
theorem b2c {l:List Epoch} {e:Epoch} (hl:l.length≤1000):∃ b,a3I l e=some b∧(b=true↔∃ x∈l,a4H x e):=by
 unfold a3I
 obtain ⟨r,h1,h2⟩:=R3 (b1:=a3J l e) (fun m s=>∃ j:Nat,s=(j:Int)∧m+j=l.length∧∀ d∈l.take j,¬ a4H d e) (fun r=>(r=true↔∃ x∈l,a4H x e)) (fun m s ⟨j,es,hj,hall⟩=>by
  subst es
  unfold a3J
  by_cases hjl:j<l.length
  ·rw [if_pos (decide_eq_true (by omega)),w9 _ _ hjl]
   simp only [Option.bind_some]
   by_cases ho:a4H l[j] e
   ·obtain ⟨o1,o2⟩:=ho
    rw [if_pos (decide_eq_true o1)]
    simp only [Option.bind_some]
    rw [if_pos (decide_eq_true o2)]
    exact .inr ⟨true,rfl,⟨fun _=>⟨_,List.getElem_mem hjl,o1,o2⟩,fun _=>rfl⟩⟩
   ·have hc:(if decide (l[j].From<e.To)=true then some (decide (e.From<l[j].To)) else some false)=some false:=by
     by_cases o1:l[j].From<e.To
     ·rw [if_pos (decide_eq_true o1),decide_eq_false fun o2=>ho ⟨o1,o2⟩]
     ·rw [if_neg (by simpa using o1)]
    rw [hc]
    simp only [Option.bind_some]
    rw [if_neg (by simp),M6 (by omega)]
    refine .inl ⟨_,m - 1,rfl,⟨j+1,rfl,by omega,fun d hd=>?_⟩,by omega⟩
    rw [C9 hjl] at hd
    rcases List.mem_append.1 hd with hd | hd
    ·exact hall d hd
    ·rcases List.mem_singleton.1 hd with rfl;exact ho
  ·rw [if_neg (by simp;omega)]
   rw [List.take_of_length_le (by omega)] at hall
   exact .inr ⟨_,rfl,⟨fun h=>(by cases h),fun ⟨x,hx,ho⟩=>absurd ho (hall x hx)⟩⟩) l.length 0 ⟨0,rfl,rfl,by simp⟩
 exact ⟨r,h1,h2⟩
theorem radd_ok {l:List Epoch} {e:Epoch} (hv:VL l) (hl:l.length≤1000) (he:VE e) (hno:∀ x∈l,¬ a4H x e):∃ m,a7D l e=some m∧VL m∧(∀ x,x∈m↔x∈l∨x=e)∧m.length=l.length+1:=by
 unfold a7D
 obtain ⟨r,h1,k,rfl,hk,hlo,hhi⟩:=R3 (b1:=a6s l e) (fun m s=>∃ j:Nat,s=(j:Int)∧m+j=l.length∧∀ i (hi:i<l.length),i<j→l[i].From<e.From) (fun r=>∃ k:Nat,r=(k:Int)∧k≤l.length∧(∀ i (hi:i<l.length),i<k→l[i].From<e.From)∧∀ h:k<l.length,e.From≤l[k].From) (fun m s ⟨j,es,hj,hall⟩=>by
  subst es
  unfold a6s
  by_cases hjl:j<l.length
  ·rw [if_pos (decide_eq_true (by omega)),w9 _ _ hjl]
   simp only [Option.bind_some]
   by_cases ho:l[j].From<e.From
   ·rw [if_pos (decide_eq_true ho),M6 (by omega)]
    refine .inl ⟨_,m - 1,rfl,⟨j+1,rfl,by omega,fun i hi hij=>?_⟩,by omega⟩
    by_cases hie:i=j
    ·subst hie;exact ho
    ·exact hall i hi (by omega)
   ·rw [if_neg (by simpa using ho)]
    exact .inr ⟨_,rfl,j,rfl,by omega,hall,fun _=>by omega⟩
  ·rw [if_neg (by simp;omega)]
   exact .inr ⟨_,rfl,j,rfl,by omega,hall,fun h=>absurd h hjl⟩) l.length 0 ⟨0,rfl,rfl,fun i hi h=>absurd h (Nat.not_lt_zero _)⟩
 rw [h1]
 simp only [Option.bind_some]
 have g1:D8 l 0 (k:Int)=some (l.take k):=by
  have:=a0B l 0 k (Nat.zero_le _) hk
  simpa using this
 have g2:D8 l (k:Int) (l.length:Int)=some (l.drop k):=by rw [a0B _ _ _ hk (Nat.le_refl _),List.take_of_length_le (Nat.le_refl _)]
 rw [g1]
 simp only [Option.bind_some]
 rw [capp _ _ (by simp;omega) (by decide),a6p he.ce]
 simp only [Option.bind_some]
 rw [E5 _ _ _ (by simp;omega) (by decide),g2]
 simp only [Option.bind_some]
 rw [E5 _ _ _ (by simp;omega) (by decide)]
 refine ⟨_,rfl,?_,fun x=>?_,by simp;omega⟩
 ·have hmem:∀ x∈l.take k ++ [e] ++ l.drop k,VE x:=fun x hx=>by
   rcases List.mem_append.1 hx with hx | hx
   ·rcases List.mem_append.1 hx with hx | hx
    ·exact hv.v x (List.mem_of_mem_take hx)
    ·rcases List.mem_singleton.1 hx with rfl;exact he
   ·exact hv.v x (List.mem_of_mem_drop hx)
  have hL:∀ x∈l.take k,bef x e:=fun x hx=>by
   obtain ⟨i,hi,rfl⟩:=List.mem_iff_getElem.1 hx
   rw [List.length_take] at hi
   rw [List.getElem_take]
   have h2:=hlo i (by omega) (by omega)
   have h3:=hno _ (List.getElem_mem (show i<l.length by omega))
   have:=he.ft
   unfold a4H at h3;unfold bef;omega
  have hR:∀ x∈l.drop k,bef e x:=fun x hx=>by
   obtain ⟨i,hi,rfl⟩:=List.mem_iff_getElem.1 hx
   rw [List.length_drop] at hi
   rw [List.getElem_drop]
   have h2:=hhi (by omega)
   have h3:=hno _ (List.getElem_mem (show k+i<l.length by omega))
   have h4:e.From≤l[k+i].From:=by
    by_cases hi0:i=0
    ·subst hi0;exact h2
    ·have:=List.pairwise_iff_getElem.1 hv.asc k (k+i) (by omega) (by omega) (by omega);omega
   have:=(hv.v _ (List.getElem_mem (show k+i<l.length by omega))).ft
   unfold a4H at h3;unfold bef;omega
  have hp:=hv.p
  rw [← List.take_append_drop k l,List.pairwise_append] at hp
  refine ⟨hmem,?_⟩
  rw [List.append_assoc,List.pairwise_append]
  refine ⟨hp.1,?_,fun a ha b hb=>?_⟩
  ·rw [List.singleton_append,List.pairwise_cons]
   exact ⟨hR,hp.2.1⟩
  ·rw [List.singleton_append] at hb
   rcases List.mem_cons.1 hb with rfl | hb
   ·exact hL a ha
   ·exact hp.2.2 a ha b hb
 ·conv=>rhs;rw [← List.take_append_drop k l]
  simp only [List.mem_append,List.mem_singleton]
  constructor
  ·rintro ((h | h) | h)
   ·exact .inl (.inl h)
   ·exact .inr h
   ·exact .inl (.inr h)
  ·rintro ((h | h) | h)
   ·exact .inl (.inl h)
   ·exact .inr h
   ·exact .inl (.inr h)
theorem b4T {inv:Inventory} {c:Change} (hf:FI inv) (hc:CF c):∃ b,a6t inv c=some b∧(b=true↔VI inv∧CK c):=by
 obtain ⟨v,v1,v2⟩:=a5i hf
 obtain ⟨w,_,w1,w3⟩:=b2q hc.e.1
 obtain ⟨z,_,z1,z3⟩:=b4y hc.e
 unfold a6t
 rw [v1,a7a hc.s,w1,z1]
 simp only [Option.bind_some,a4B]
 cases v with
 | false=>exact ⟨false,by simp,fun h=>(by cases h),fun h=>v2.2 h.1⟩
 | true=>
  have hv:=v2.1 rfl
  cases hn:inB c.Kind 0 2 with
  | false=>
   refine ⟨false,by simp,fun h=>(by cases h),fun h=>?_⟩
   have:inB c.Kind 0 2=true:=a0e.2 (by rcases h.2.2 with h | h | h;omega;omega;omega)
   rw [hn] at this;cases this
  | true=>
   have hn:=a0e.1 hn
   cases hs:a5j c.Source with
   | false=>exact ⟨false,by simp,fun h=>(by cases h),fun h=>by have:=h.2.1;rw [hs] at this;cases this⟩
   | true=>
    simp only [Bool.not_true,Bool.false_eq_true,if_false,Option.bind_some]
    by_cases k1:c.Kind=1
    ·rw [if_pos (by simpa using k1)]
     refine ⟨_,rfl,z3.trans ?_⟩
     exact ⟨fun h=>⟨hv,hs,.inr (.inl ⟨k1,h⟩)⟩,fun h=>by rcases h.2.2 with h | h | h;omega;exact h.2;omega⟩
    ·rw [if_neg (by simpa using k1)]
     refine ⟨_,rfl,?_⟩
     rw [Bool.and_eq_true,Bool.or_eq_true,beq_iff_eq,beq_iff_eq,w3]
     constructor
     ·rintro ⟨h1,h2 | h2⟩
      ·exact ⟨hv,hs,.inr (.inr ⟨h2,h1⟩)⟩
      ·by_cases k0:c.Kind=0
       ·exact ⟨hv,hs,.inl ⟨k0,h1,h2⟩⟩
       ·exact ⟨hv,hs,.inr (.inr ⟨by omega,h1⟩)⟩
     ·rintro ⟨-,-,h | h | h⟩
      ·exact ⟨h.2.1,.inr h.2.2⟩
      ·exact absurd h.1 k1
      ·exact ⟨h.2,.inl h.1⟩
theorem b3I {inv:Inventory} {c:Change} (hv:VI inv) (hk:CK c) (k1:c.Kind≠1) (hf:Found inv c) {A M B:List Channel} (hd:Dec inv.Channels c.Source A M B) (hA:A.length+B.length≤1000) {l:List Epoch} (hl:VL l) (hm:∀ e,e∈l↔a8D inv c e) (hn:l.length≤(epL c.Source inv.Channels).length) (h32:l.length≤32) :
  ∃ r,a2h c (A ++ (⟨c.Source,l⟩ :: B)) (A.length:Int)=some r∧ApplyTo inv c r:=by
 unfold a2h
 have hi:A.length<(A ++ (⟨c.Source,l⟩ :: B)).length:=by simp
 have hg:(A ++ (⟨c.Source,l⟩ :: B))[A.length]=⟨c.Source,l⟩:=by simp
 rw [w9 _ _ hi,hg]
 simp only [Option.bind_some]
 obtain ⟨b,b1,b2⟩:=b2c (l:=l) (e:=c.Epoch) (by omega)
 rw [b1]
 simp only [Option.bind_some]
 cases b with
 | true=>
  obtain ⟨x,hx,ho⟩:=b2.1 rfl
  exact ⟨_,rfl,.clash ⟨hv,hk⟩ hf ⟨k1,x,(hm x).1 hx,ho⟩⟩
 | false=>
  have hno:∀ x∈l,¬ a4H x c.Epoch:=fun x hx ho=>by have:=b2.2 ⟨x,hx,ho⟩;cases this
  have hcl:¬ a7S inv c:=fun ⟨_,x,hx,ho⟩=>hno x ((hm x).2 hx) ho
  obtain ⟨m,m1,m2,m3,m4⟩:=radd_ok hl (by omega) (hk.ve k1) hno
  rw [if_neg (by simp),m1]
  simp only [Option.bind_some]
  rw [a2w _ _ _ (by omega) (by omega),Int.toNat_natCast]
  simp only [Option.bind_some]
  have hset:(A ++ (⟨c.Source,l⟩ :: B)).set A.length ⟨c.Source,m⟩=A ++ (⟨c.Source,m⟩ :: B):=by simp
  rw [hset]
  have hm0:m≠[]:=fun h=>by rw [h] at m4;simp at m4
  have hr:=hd.res hv hk.1 m2 (fun e=>(m3 e).trans (or_congr (hm e) ⟨fun h=>⟨k1,h⟩,fun h=>h.2⟩)) (by omega)
  have he:=hd.ep2 m
  have hch:a3r c.Source m=[⟨c.Source,m⟩]:=by unfold a3r;rw [if_neg hm0]
  rw [hch,List.singleton_append] at hr he
  have hi2:A.length<(A ++ (⟨c.Source,m⟩ :: B)).length:=by simp
  have hg2:(A ++ (⟨c.Source,m⟩ :: B))[A.length]=⟨c.Source,m⟩:=by simp
  by_cases h128:(128:Int)<((A ++ (⟨c.Source,m⟩ :: B)).length:Int)
  ·rw [if_pos (decide_eq_true h128)]
   exact ⟨_,rfl,.over ⟨hv,hk⟩ hf hcl _ hr (.inl (by show 128<(A ++ (⟨c.Source,m⟩ :: B)).length;omega))⟩
  ·rw [if_neg (by simpa using h128),w9 _ _ hi2,hg2]
   simp only [Option.bind_some]
   by_cases h32:(32:Int)<(m.length:Int)
   ·rw [if_pos (decide_eq_true h32)]
    exact ⟨_,rfl,.over ⟨hv,hk⟩ hf hcl _ hr (.inr (by rw [he];omega))⟩
   ·rw [if_neg (by simpa using h32)]
    refine ⟨_,rfl,.ok ⟨hv,hk⟩ hf hcl _ hr ?_⟩
    unfold Over
    rw [he]
    simp only
    omega
theorem b4S {inv:Inventory} {c:Change} (hf:FI inv) (hc:CF c):∃ r,a0p inv c=some r∧ApplyTo inv c r:=by
 obtain ⟨b,b1,b2⟩:=b4T hf hc
 unfold a0p
 rw [b1]
 simp only [Option.bind_some]
 cases b with
 | false=>exact ⟨_,rfl,.bad fun h=>by have:=b2.2 h;cases this⟩
 | true=>
  obtain ⟨hv,hk⟩:=b2.1 rfl
  rw [if_neg (by simp),a8R hv.ci]
  simp only [Option.bind_some]
  obtain ⟨i,k,p1,p2⟩:=b4U hv c
  rw [p1]
  simp only [Option.bind_some]
  have hlen:=hv.n
  have hin:=hv.toSI.ep c.Source
  rcases p2 with ⟨rfl,rfl,hno⟩ | ⟨n,hn,rfl,hs,p2⟩
  ·
   have hep:epL c.Source inv.Channels=[]:=b2G hno
   have hnone:∀ e,¬ InI inv c.Source e:=fun e he=>by have:=(hin e).2 he;rw [hep] at this;cases this
   by_cases k0:c.Kind=0
   ·rw [if_neg (by rw [a2Z k0];simp)]
    unfold a0T
    rw [if_neg (by rw [k0];decide),if_pos (by decide)]
    obtain ⟨r,h1,q,rfl,hq,hlo,hhi⟩:=R3 (b1:=a5g c inv.Channels) (fun m s=>∃ j:Nat,s=(j:Int)∧m+j=inv.Channels.length∧∀ i (hi:i<inv.Channels.length),i<j→F3 inv.Channels[i].Source c.Source<0) (fun r=>∃ k:Nat,r=(k:Int)∧k≤inv.Channels.length∧(∀ i (hi:i<inv.Channels.length),i<k→F3 inv.Channels[i].Source c.Source<0)∧∀ h:k<inv.Channels.length,0≤F3 inv.Channels[k].Source c.Source) (fun m s ⟨j,es,hj,hall⟩=>by
     subst es
     unfold a5g
     by_cases hjl:j<inv.Channels.length
     ·rw [if_pos (decide_eq_true (by omega)),w9 _ _ hjl]
      simp only [Option.bind_some,a8n]
      by_cases ho:F3 inv.Channels[j].Source c.Source<0
      ·rw [if_pos (decide_eq_true ho),M6 (by omega)]
       refine .inl ⟨_,m - 1,rfl,⟨j+1,rfl,by omega,fun i hi hij=>?_⟩,by omega⟩
       by_cases hie:i=j
       ·subst hie;exact ho
       ·exact hall i hi (by omega)
      ·rw [if_neg (by simpa using ho)]
       exact .inr ⟨_,rfl,j,rfl,by omega,hall,fun _=>by omega⟩
     ·rw [if_neg (by simp;omega)]
      exact .inr ⟨_,rfl,j,rfl,by omega,hall,fun h=>absurd h hjl⟩) inv.Channels.length 0 ⟨0,rfl,rfl,fun i hi h=>absurd h (Nat.not_lt_zero _)⟩
    rw [h1]
    simp only [Option.bind_some]
    rw [E5 _ _ _ (by simp;omega) (by decide)]
    simp only [Option.bind_some]
    obtain ⟨s1,s2,Y,hY,hYl,hYs⟩:=b0p (s:=inv.Channels) (x:=(⟨⟨ByteArray.empty,ByteArray.empty,ByteArray.empty,ByteArray.empty⟩,[]⟩:Channel)) hq (by omega)
    rw [M6 (by omega),s1,s2]
    simp only [Option.bind_some]
    rw [← hY,w9 _ _ hYl]
    simp only [Option.bind_some]
    rw [a2w _ _ _ (by omega) (by omega),Int.toNat_natCast]
    simp only [Option.bind_some]
    have hset:Y.set q ⟨c.Source,[]⟩=inv.Channels.take q ++ (⟨c.Source,[]⟩ :: inv.Channels.drop q):=by
     have:Y.set q ⟨c.Source,[]⟩=(Y.set q (⟨⟨ByteArray.empty,ByteArray.empty,ByteArray.empty,ByteArray.empty⟩,[]⟩:Channel)).set q ⟨c.Source,[]⟩:=by rw [List.set_set]
     rw [this,hYs]
     have hl:(inv.Channels.take q).length=q:=by rw [List.length_take];omega
     rw [List.set_append_right _ _ (by omega),hl,Nat.sub_self];rfl
    rw [hset]
    rcases b3t hv.toSI c.Source hq hlo (fun i hi hik=>by
     have h2:=hhi (by omega)
     by_cases hie:i=q
     ·subst hie;exact h2
     ·refine Classical.byContradiction fun hn=>?_
      have:=List.pairwise_iff_getElem.1 hv.p q i (by omega) hi (by omega)
      have:=R6.trans _ _ _ this (by omega:F3 inv.Channels[i].Source c.Source<0)
      omega) with ⟨hql,hqs,_⟩ | ⟨_,hd⟩
    ·exact absurd hqs (hno _ (List.getElem_mem hql))
    ·have hl:(inv.Channels.take q).length=q:=by rw [List.length_take];omega
     have:=b3I (l:=[]) hv hk (by omega) (.inl k0) hd (by simp;omega) VL.nil (fun e=>⟨(fun h=>by cases h),fun h=>absurd h.1 (hnone e)⟩) (by simp) (by simp)
     rw [hl] at this
     exact this
   ·rw [if_pos (a4d k0),if_pos (by decide)]
    refine ⟨_,rfl,.none ⟨hv,hk⟩ fun h=>?_⟩
    rcases h with h | ⟨e,he,_⟩
    ·exact k0 h
    ·exact hnone e he
  ·
   have hd:=dec_at hv.toSI hn hs
   have hep:epL c.Source inv.Channels=inv.Channels[n].Epochs:=by rw [hd.ep];simp
   have hvl:VL inv.Channels[n].Epochs:=(hv.e _ (List.getElem_mem hn)).vl
   have h32:=hv.m _ (List.getElem_mem hn)
   have hAl:(inv.Channels.take n).length=n:=by rw [List.length_take];omega
   rw [hep] at hin
   by_cases k0:c.Kind=0
   ·rw [if_neg (by rw [a2Z k0];simp)]
    unfold a0T
    rw [if_neg (by rw [k0];decide),if_neg (by simp)]
    have:=b3I (l:=inv.Channels[n].Epochs) hv hk (by omega) (.inl k0) hd (by simp;omega) hvl (fun e=>(hin e).trans ⟨fun h=>⟨h,fun h=>absurd k0 h⟩,fun h=>h.1⟩) (by rw [hep];omega) h32
    rw [hAl] at this
    have hcs:inv.Channels.take n ++ (⟨c.Source,inv.Channels[n].Epochs⟩ :: inv.Channels.drop (n+1))=inv.Channels:=by
     have:(⟨c.Source,inv.Channels[n].Epochs⟩:Channel)=inv.Channels[n]:=by rw [← hs]
     rw [this,List.getElem_cons_drop,List.take_append_drop]
    rw [hcs] at this
    exact this
   ·rw [if_pos (a4d k0)]
    rcases p2 with ⟨rfl,hnf⟩ | ⟨m,hm,rfl,hmf⟩
    ·rw [if_pos (by simp)]
     refine ⟨_,rfl,.none ⟨hv,hk⟩ fun h=>?_⟩
     rcases h with h | ⟨e,he,hef⟩
     ·exact k0 h
     ·exact hnf e ((hin e).2 he) hef
    ·have hfound:Found inv c:=.inr ⟨_,(hin _).1 (List.getElem_mem hm),hmf⟩
     rw [if_neg (by simp)]
     rw [w9 _ _ hn]
     simp only [Option.bind_some]
     have g1:D8 inv.Channels[n].Epochs 0 (m:Int)=some (inv.Channels[n].Epochs.take m):=by
      have:=a0B inv.Channels[n].Epochs 0 m (Nat.zero_le _) (by omega)
      simpa using this
     have g2:D8 inv.Channels[n].Epochs (((m+1:Nat):Int)) (inv.Channels[n].Epochs.length:Int)=some (inv.Channels[n].Epochs.drop (m+1)):=by rw [a0B _ _ _ (by omega) (Nat.le_refl _),List.take_of_length_le (Nat.le_refl _)]
     rw [g1]
     simp only [Option.bind_some]
     rw [capp _ _ (by simp;omega) (by decide),M6 (by omega),g2]
     simp only [Option.bind_some]
     rw [E5 _ _ _ (by simp;omega) (by decide)]
     simp only [Option.bind_some]
     rw [a2w _ _ _ (by omega) (by omega),Int.toNat_natCast,hs]
     simp only [Option.bind_some]
     obtain ⟨d1,d2,d3⟩:=hvl.del hm hmf
     obtain ⟨l,hl⟩:∃ l,l=inv.Channels[n].Epochs.take m ++ inv.Channels[n].Epochs.drop (m+1):=⟨_,rfl⟩
     rw [← hl] at d1 d2 d3 ⊢
     have hst:∀ e,e∈l↔a8D inv c e:=fun e=>(d2 e).trans (by
      unfold a8D
      rw [hin e]
      exact ⟨fun h=>⟨h.1,fun _=>h.2⟩,fun h=>⟨h.1,h.2 k0⟩⟩)
     have hset:inv.Channels.set n ⟨c.Source,l⟩=inv.Channels.take n ++ (⟨c.Source,l⟩ :: inv.Channels.drop (n+1)):=by rw [List.set_eq_take_append_cons_drop,if_pos hn]
     rw [hset]
     unfold a0T
     by_cases k1:c.Kind=1
     ·rw [if_pos (by simpa using k1)]
      have hcl:¬ a7S inv c:=fun h=>h.1 k1
      have hr:=hd.res hv hk.1 d1 (fun e=>(hst e).trans ⟨.inl,fun h=>h.elim id fun h=>absurd k1 h.1⟩) (by rw [hep];omega)
      have he2:=hd.ep2 l
      have hnov:¬ Over ⟨inv.Channels.take n ++ (a3r c.Source l ++ inv.Channels.drop (n+1))⟩ c:=by
       unfold Over
       simp only
       rw [he2]
       have:(a3r c.Source l).length≤1:=by unfold a3r;split <;> simp
       simp only [List.length_append,List.length_take,List.length_drop]
       omega
      have hok:=ApplyTo.ok ⟨hv,hk⟩ hfound hcl _ hr hnov
      have hi:n<(inv.Channels.take n ++ (⟨c.Source,l⟩ :: inv.Channels.drop (n+1))).length:=by simp;omega
      have hg:(inv.Channels.take n ++ (⟨c.Source,l⟩ :: inv.Channels.drop (n+1)))[n]=⟨c.Source,l⟩:=by
       rw [List.getElem_append_right (by omega)];simp [hAl]
      simp only
      rw [w9 _ _ hi,hg]
      simp only [Option.bind_some]
      by_cases hl0:l=[]
      ·rw [if_pos (by simp [hl0])]
       have t1:D8 (inv.Channels.take n ++ (⟨c.Source,l⟩ :: inv.Channels.drop (n+1))) 0 (n:Int)=some (inv.Channels.take n):=by
        have:=a0B (inv.Channels.take n ++ (⟨c.Source,l⟩ :: inv.Channels.drop (n+1))) 0 n (Nat.zero_le _) (by omega)
        rw [List.take_left' hAl] at this
        simpa using this
       have t2:D8 (inv.Channels.take n ++ (⟨c.Source,l⟩ :: inv.Channels.drop (n+1))) (((n+1:Nat):Int)) ((inv.Channels.take n ++ (⟨c.Source,l⟩ :: inv.Channels.drop (n+1))).length:Int)=some (inv.Channels.drop (n+1)):=by
        rw [a0B _ _ _ (by omega) (Nat.le_refl _),List.take_of_length_le (Nat.le_refl _)]
        have:inv.Channels.take n ++ (⟨c.Source,l⟩ :: inv.Channels.drop (n+1))=(inv.Channels.take n ++ [⟨c.Source,l⟩]) ++ inv.Channels.drop (n+1):=by simp
        rw [this,List.drop_left' (by simp;omega)]
       rw [t1,M6 (by omega),t2]
       simp only [Option.bind_some]
       rw [E5 _ _ _ (by simp;omega) (by decide)]
       simp only [Option.bind_some]
       unfold a3r at hok
       rw [if_pos hl0,List.nil_append] at hok
       exact ⟨_,rfl,hok⟩
      ·have hll:(l.length:Int)≠0:=by have:=List.length_pos_iff.2 hl0;omega
       rw [if_neg (by rw [b0l hll];simp)]
       unfold a3r at hok
       rw [if_neg hl0,List.singleton_append] at hok
       exact ⟨_,rfl,hok⟩
     ·rw [if_neg (by simpa using k1),if_neg (by simp)]
      have:=b3I hv hk k1 hfound hd (by simp;omega) d1 hst (by rw [hep];omega) (by omega)
      rw [hAl] at this
      exact this
theorem b3s {inv:Inventory} {c:Change} (hf:FI inv) (hc:CF c):∃ r,M0 inv c=some r∧a0p inv c=some r∧ApplyTo inv c r:=by
 obtain ⟨r,h1,h2⟩:=apply_ok hf hc
 obtain ⟨q,h3,h4⟩:=b4S hf hc
 obtain rfl:=h2.uniq h4
 exact ⟨r,h1,h3,h2⟩
end Go.Proofs.YteanekphncdhiaaGreat.Sh
namespace Go.Proofs.YteanekphncdhiaaGreat.Sh
open Go
set_option linter.unusedVariables false
set_option linter.unusedSimpArgs false
theorem Y5 {σ S β:Type} (st:σ→Int→S) {body:S→Option (S ⊕ β)} (n:Nat) (I:Nat→σ→Prop) (Q:β→Prop)
  (hstep:∀ i,i<n→∀ a,I i a→∃ a',body (st a (i:Int))=some (.inl (st a' ((i+1:Nat):Int)))∧I (i+1) a')
  (hend:∀ a,I n a→∃ r,body (st a (n:Int))=some (.inr r)∧Q r) (a0:σ) (h0:I 0 a0):∃ r,o5 body (st a0 0)=some r∧Q r:=
 R3 (fun k s=>∃ (i:Nat) (a:σ),s=st a (i:Int)∧k+i=n∧I i a) Q (fun k s ⟨i,a,hs,hk,hI⟩=>by
  subst hs
  by_cases hi:i<n
  ·obtain ⟨a',e,h'⟩:=hstep i hi a hI
   exact .inl ⟨_,k - 1,e,⟨i+1,a',rfl,by omega,h'⟩,by omega⟩
  ·have hin:i=n:=by omega
   subst hin
   exact .inr (hend a hI)) n (st a0 0) ⟨0,a0,rfl,by omega,h0⟩
theorem b3B {σ S β:Type} (st:σ→Int→S) {body:S→Option (S ⊕ β)} (n:Nat) (I:Nat→σ→Prop) (Q:β→Prop)
  (hstep:∀ i,i<n→∀ a,I i a→(∃ a',body (st a (i:Int))=some (.inl (st a' ((i+1:Nat):Int)))∧I (i+1) a')∨∃ r,body (st a (i:Int))=some (.inr r)∧Q r)
  (hend:∀ a,I n a→∃ r,body (st a (n:Int))=some (.inr r)∧Q r) (a0:σ) (h0:I 0 a0):∃ r,o5 body (st a0 0)=some r∧Q r:=
 R3 (fun k s=>∃ (i:Nat) (a:σ),s=st a (i:Int)∧k+i=n∧I i a) Q (fun k s ⟨i,a,hs,hk,hI⟩=>by
  subst hs
  by_cases hi:i<n
  ·rcases hstep i hi a hI with ⟨a',e,h'⟩ | h
   ·exact .inl ⟨_,k - 1,e,⟨i+1,a',rfl,by omega,h'⟩,by omega⟩
   ·exact .inr h
  ·have hin:i=n:=by omega
   subst hin
   exact .inr (hend a hI)) n (st a0 0) ⟨0,a0,rfl,by omega,h0⟩
theorem a7u {n:Nat} (h:n≤1000000000000):w64 ((n:Int)+1)=((n+1:Nat):Int):=by rw [G6 (by omega) (by omega)];rfl
def Mem (l:List Span) (x:Int):Prop:=∃ s∈l,s.From≤x∧x<s.To
theorem Mem.nil {x:Int}:¬ Mem [] x:=fun ⟨s,h,_⟩=>by cases h
theorem mem_append {a b:List Span} {x:Int}:Mem (a ++ b) x↔Mem a x∨Mem b x:=by
 constructor
 ·rintro ⟨s,hs,h⟩
  rcases List.mem_append.1 hs with hs | hs
  ·exact .inl ⟨s,hs,h⟩
  ·exact .inr ⟨s,hs,h⟩
 ·rintro (⟨s,hs,h⟩ | ⟨s,hs,h⟩)
  ·exact ⟨s,List.mem_append.2 (.inl hs),h⟩
  ·exact ⟨s,List.mem_append.2 (.inr hs),h⟩
theorem a0M {s:Span} {x:Int}:Mem [s] x↔s.From≤x∧x<s.To:=by
 constructor
 ·rintro ⟨t,ht,h⟩
  rcases List.mem_singleton.1 ht with rfl
  exact h
 ·exact fun h=>⟨s,by simp,h⟩
theorem mem_cons {s:Span} {l:List Span} {x:Int}:Mem (s :: l) x↔(s.From≤x∧x<s.To)∨Mem l x:=by
 have:=mem_append (a:=[s]) (b:=l) (x:=x)
 rw [a0M] at this
 exact this
theorem mem_perm {a b:List Span} (h:a.Perm b) {x:Int}:Mem a x↔Mem b x:=
 ⟨fun ⟨s,hs,q⟩=>⟨s,h.mem_iff.1 hs,q⟩,fun ⟨s,hs,q⟩=>⟨s,h.mem_iff.2 hs,q⟩⟩
theorem mem_filter {l:List Span} {x:Int}:Mem (l.filter (fun s=>decide (s.From<s.To))) x↔Mem l x:=by
 constructor
 ·rintro ⟨s,hs,q⟩
  exact ⟨s,(List.mem_filter.1 hs).1,q⟩
 ·rintro ⟨s,hs,q⟩
  exact ⟨s,List.mem_filter.2 ⟨hs,decide_eq_true (by omega)⟩,q⟩
structure VS (l:List Span):Prop where
 ne:∀ s∈l,s.From<s.To
 ap:l.Pairwise (fun s t=>s.To<t.From)
theorem VS.nil:VS []:=⟨fun s h=>(by cases h),List.Pairwise.nil⟩
theorem VS.snoc {l:List Span} {t:Span} (h:VS l) (ht:t.From<t.To) (hl:∀ s∈l,s.To<t.From):VS (l ++ [t]):=by
 refine ⟨fun s hs=>?_,List.pairwise_append.2 ⟨h.ap,List.pairwise_singleton _ _,fun s hs u hu=>?_⟩⟩
 ·rcases List.mem_append.1 hs with hs | hs
  ·exact h.ne s hs
  ·rcases List.mem_singleton.1 hs with rfl;exact ht
 ·rcases List.mem_singleton.1 hu with rfl;exact hl s hs
theorem VS.init {l:List Span} {t:Span} (h:VS (l ++ [t])):VS l∧t.From<t.To∧∀ s∈l,s.To<t.From:=by
 have h2:=List.pairwise_append.1 h.ap
 exact ⟨⟨fun s hs=>h.ne s (List.mem_append.2 (.inl hs)),h2.1⟩,h.ne t (by simp),fun s hs=>h2.2.2 s hs t (by simp)⟩
theorem VS.tail {l:List Span} {t:Span} (h:VS (t :: l)):VS l∧t.From<t.To∧∀ s∈l,t.To<s.From:=
 ⟨⟨fun s hs=>h.ne s (List.mem_cons_of_mem _ hs),(List.pairwise_cons.1 h.ap).2⟩,h.ne t (by simp),(List.pairwise_cons.1 h.ap).1⟩
theorem VS.low {l:List Span} {t:Span} (h:VS (t :: l)) {x:Int} (hx:Mem (t :: l) x):t.From≤x:=by
 obtain ⟨h1,h2,h3⟩:=h.tail
 obtain ⟨u,hu,q⟩:=hx
 rcases List.mem_cons.1 hu with rfl | hu
 ·exact q.1
 ·have:=h3 u hu;omega
theorem VS.uniq:∀ {a b:List Span},VS a→VS b→(∀ x,Mem a x↔Mem b x)→a=b
 | [],[],_,_,_=>rfl
 | [],t :: b,_,hb,h=>absurd ((h t.From).2 ⟨t,by simp,Int.le_refl _,hb.tail.2.1⟩) Mem.nil
 | s :: a,[],ha,_,h=>absurd ((h s.From).1 ⟨s,by simp,Int.le_refl _,ha.tail.2.1⟩) Mem.nil
 | s :: a,t :: b,ha,hb,h=>by
  obtain ⟨a1,a2,a3⟩:=ha.tail
  obtain ⟨b1,b2,b3⟩:=hb.tail
  have f1:t.From≤s.From:=hb.low ((h s.From).1 ⟨s,by simp,Int.le_refl _,a2⟩)
  have f2:s.From≤t.From:=ha.low ((h t.From).2 ⟨t,by simp,Int.le_refl _,b2⟩)
  have hto:s.To=t.To:=by
   rcases Int.lt_trichotomy s.To t.To with hlt | heq | hlt
   ·obtain ⟨u,hu,q⟩:=(h s.To).2 ⟨t,by simp,by omega,hlt⟩
    rcases List.mem_cons.1 hu with rfl | hu
    ·omega
    ·have:=a3 u hu;omega
   ·exact heq
   ·obtain ⟨u,hu,q⟩:=(h t.To).1 ⟨s,by simp,by omega,hlt⟩
    rcases List.mem_cons.1 hu with rfl | hu
    ·omega
    ·have:=b3 u hu;omega
  have hst:s=t:=by
   obtain ⟨x,y⟩:=s
   obtain ⟨z,w⟩:=t
   simp only at f1 f2 hto
   rw [hto,show x=z by omega]
  subst hst
  have ih:=VS.uniq a1 b1 (fun x=>by
   constructor
   ·intro hx
    obtain ⟨u,hu,q⟩:=hx
    have hu2:=a3 u hu
    rcases mem_cons.1 ((h x).1 (mem_cons.2 (.inr ⟨u,hu,q⟩))) with q2 | q2
    ·omega
    ·exact q2
   ·intro hx
    obtain ⟨u,hu,q⟩:=hx
    have hu2:=b3 u hu
    rcases mem_cons.1 ((h x).2 (mem_cons.2 (.inr ⟨u,hu,q⟩))) with q2 | q2
    ·omega
    ·exact q2)
  rw [ih]
def a6Z (out:List Span) (x:Span):List Span:=
 match out.getLast? with
 | none=>out ++ [x]
 | some t=>if x.From≤t.To then out.dropLast ++ [⟨t.From,max t.To x.To⟩] else out ++ [x]
theorem a9s (x:Span):a6Z [] x=[x]:=rfl
theorem a8k (o:List Span) (t x:Span):a6Z (o ++ [t]) x=if x.From≤t.To then o ++ [⟨t.From,max t.To x.To⟩] else o ++ [t] ++ [x]:=by
 unfold a6Z
 simp
theorem mstep_ok {out:List Span} {x:Span} (hv:VS out) (hx:x.From<x.To) (ho:∀ t∈out,t.From≤x.From):VS (a6Z out x)∧(∀ y,Mem (a6Z out x) y↔Mem out y∨(x.From≤y∧y<x.To))∧(a6Z out x).length≤out.length+1 ∧
  (∀ s∈a6Z out x,s.From≤x.From)∧(∀ s∈a6Z out x,(s.From=x.From∨∃ t∈out,s.From=t.From)∧(s.To=x.To∨∃ t∈out,s.To=t.To)):=by
 rcases List.eq_nil_or_concat out with rfl | ⟨o,t,rfl⟩
 ·rw [a9s]
  refine ⟨VS.nil.snoc (t:=x) hx (fun s h=>(by cases h)),fun y=>?_,by simp,fun s hs=>?_,fun s hs=>?_⟩
  ·rw [a0M]
   exact ⟨fun h=>.inr h,fun h=>h.elim (fun h=>absurd h Mem.nil) id⟩
  ·rcases List.mem_singleton.1 hs with rfl;exact Int.le_refl _
  ·rcases List.mem_singleton.1 hs with rfl;exact ⟨.inl rfl,.inl rfl⟩
 ·rw [List.concat_eq_append] at *
  obtain ⟨v1,v2,v3⟩:=hv.init
  have ht:=ho t (by simp)
  rw [a8k]
  by_cases hc:x.From≤t.To
  ·rw [if_pos hc]
   refine ⟨v1.snoc (t:=⟨t.From,max t.To x.To⟩) (by simp only;omega) v3,fun y=>?_,by simp,fun s hs=>?_,fun s hs=>?_⟩
   ·rw [mem_append,mem_append,a0M,a0M]
    simp only
    constructor
    ·rintro (h | h)
     ·exact .inl (.inl h)
     ·by_cases hy:y<t.To
      ·exact .inl (.inr ⟨h.1,hy⟩)
      ·exact .inr ⟨by omega,by omega⟩
    ·rintro ((h | h) | h)
     ·exact .inl h
     ·exact .inr ⟨h.1,by omega⟩
     ·exact .inr ⟨by omega,by omega⟩
   ·rcases List.mem_append.1 hs with hs | hs
    ·exact ho s (List.mem_append.2 (.inl hs))
    ·rcases List.mem_singleton.1 hs with rfl;exact ht
   ·rcases List.mem_append.1 hs with hs | hs
    ·exact ⟨.inr ⟨s,List.mem_append.2 (.inl hs),rfl⟩,.inr ⟨s,List.mem_append.2 (.inl hs),rfl⟩⟩
    ·rcases List.mem_singleton.1 hs with rfl
     refine ⟨.inr ⟨t,by simp,rfl⟩,?_⟩
     simp only
     by_cases hm:t.To≤x.To
     ·exact .inl (by omega)
     ·exact .inr ⟨t,by simp,by omega⟩
  ·rw [if_neg hc]
   refine ⟨hv.snoc hx (fun s hs=>?_),fun y=>?_,by simp,fun s hs=>?_,fun s hs=>?_⟩
   ·rcases List.mem_append.1 hs with hs | hs
    ·have:=v3 s hs;omega
    ·rcases List.mem_singleton.1 hs with rfl;omega
   ·rw [mem_append,a0M]
   ·rcases List.mem_append.1 hs with hs | hs
    ·exact ho s hs
    ·rcases List.mem_singleton.1 hs with rfl;exact Int.le_refl _
   ·rcases List.mem_append.1 hs with hs | hs
    ·exact ⟨.inr ⟨s,hs,rfl⟩,.inr ⟨s,hs,rfl⟩⟩
    ·rcases List.mem_singleton.1 hs with rfl;exact ⟨.inl rfl,.inl rfl⟩
theorem b4i {α:Type} (o:List α) (t:α):ix (o ++ [t]) (o.length:Int)=some t:=by
 rw [w9 _ _ (by simp)]
 simp
theorem b1E {α:Type} (o:List α) (t t':α):a3Q (o ++ [t]) (o.length:Int) t'=some (o ++ [t']):=by
 rw [a2w _ _ _ (by omega) (by simp;omega)]
 simp
structure MI (srt:List Span) (i:Nat) (out:List Span):Prop where
 vs:VS out
 mem:∀ y,Mem out y↔Mem (srt.take i) y
 ord:∀ t∈out,∀ u∈srt.drop i,t.From≤u.From
 len:out.length≤i
 ends:∀ s∈out,(∃ t∈srt,s.From=t.From)∧(∃ t∈srt,s.To=t.To)
theorem MI.zero {srt:List Span}:MI srt 0 []:=⟨VS.nil,fun y=>by simp,fun t h=>(by cases h),Nat.le_refl _,fun s h=>(by cases h)⟩
theorem MI.step {srt out:List Span} {i:Nat} (hi:i<srt.length) (h:MI srt i out) (hne:∀ s∈srt,s.From<s.To) (hs:srt.Pairwise (fun s t=>s.From≤t.From)):MI srt (i+1) (a6Z out srt[i]):=by
 have hx:=hne _ (List.getElem_mem hi)
 have hd:srt.drop i=srt[i] :: srt.drop (i+1):=List.drop_eq_getElem_cons hi
 obtain ⟨h1,h2,h3,h4,h5⟩:=mstep_ok (x:=srt[i]) h.vs hx (fun t ht=>h.ord t ht _ (by rw [hd];exact List.mem_cons_self))
 have hp:=hs.sublist (List.drop_sublist i srt)
 rw [hd] at hp
 have hp1:=(List.pairwise_cons.1 hp).1
 refine ⟨h1,fun y=>?_,fun t ht u hu=>?_,by have:=h.len;omega,fun s hs'=>?_⟩
 ·rw [h2,h.mem,C9 hi,mem_append,a0M]
 ·have:=h4 t ht
  have:=hp1 u hu
  omega
 ·obtain ⟨q1,q2⟩:=h5 s hs'
  refine ⟨?_,?_⟩
  ·rcases q1 with q | ⟨t,ht,q⟩
   ·exact ⟨_,List.getElem_mem hi,q⟩
   ·obtain ⟨u,hu,e⟩:=(h.ends t ht).1
    exact ⟨u,hu,q.trans e⟩
  ·rcases q2 with q | ⟨t,ht,q⟩
   ·exact ⟨_,List.getElem_mem hi,q⟩
   ·obtain ⟨u,hu,e⟩:=(h.ends t ht).2
    exact ⟨u,hu,q.trans e⟩
end Go.Proofs.YteanekphncdhiaaGreat.Sh
namespace Go.Proofs.YteanekphncdhiaaGreat.Sh
open Go
set_option linter.unusedVariables false
set_option linter.unusedSimpArgs false
theorem sclone (s:List Span) (h:s.length≤1000000):K9 s=some s:=by
 unfold K9
 rw [E5 _ _ _ (by simpa using h) (by decide)]
 rfl
theorem b3c (p:Span→Bool) (f:Span→Option Bool) (hf:∀ x,f x=some (p x)) (l:List Span) (hl:l.length≤1000000) :
  ∃ r,M4 l f=some r∧((r=-1∧∀ s∈l,p s=false)∨∃ i:Nat,∃ h:i<l.length,r=(i:Int)∧p l[i]=true∧∀ s∈l.take i,p s=false):=by
 unfold M4
 refine b3B (fun (_:Unit) i=>i) l.length (fun i _=>∀ s∈l.take i,p s=false) _ (fun i hi a hI=>?_) (fun a hI=>?_) () (by simp)
 ·unfold O9
  rw [if_pos (decide_eq_true (by omega)),w9 _ _ hi]
  simp only [Option.bind_some]
  rw [hf]
  simp only [Option.bind_some]
  cases hp:p l[i] with
  | true=>exact .inr ⟨_,rfl,.inr ⟨i,hi,rfl,hp,hI⟩⟩
  | false=>
   left
   refine ⟨(),by rw [a7u (by omega)];rfl,fun s hs=>?_⟩
   rw [C9 hi] at hs
   rcases List.mem_append.1 hs with hs | hs
   ·exact hI s hs
   ·rcases List.mem_singleton.1 hs with rfl;exact hp
 ·unfold O9
  rw [if_neg (by simp)]
  rw [List.take_of_length_le (Nat.le_refl _)] at hI
  exact ⟨_,rfl,.inl ⟨rfl,hI⟩⟩
theorem b2l (p:Span→Bool) (f:Span→Option Bool) (hf:∀ x,f x=some (p x)) (l:List Span) (hl:l.length≤1000000):L6 l f=some (l.filter (fun x=>!p x)):=by
 unfold L6
 obtain ⟨r,er,hr⟩:=b3c p f hf l hl
 rw [er]
 simp only [Option.bind_some]
 rcases hr with ⟨rfl,hall⟩ | ⟨i0,hi0,rfl,hp0,hall⟩
 ·rw [if_pos (by decide),List.filter_eq_self.2 (fun a ha=>by rw [hall a ha];rfl)]
 ·rw [if_neg (by simp <;> omega),a7u (by omega)]
  obtain ⟨⟨m,e2⟩,em,i,he,h1,h2,h3⟩:=R3 (b1:=O7 f)
   (fun k s=>∃ i j:Nat,s.2.1=(i:Int)∧s.2.2=(j:Int)∧k+j=l.length∧i<j∧s.1.length=l.length∧s.1.take i=(l.take j).filter (fun x=>!p x)∧s.1.drop j=l.drop j)
   (fun r=>∃ i:Nat,r.2=(i:Int)∧i≤l.length∧r.1.length=l.length∧r.1.take i=l.filter (fun x=>!p x)) (by
    rintro k ⟨m,i',j'⟩ ⟨i,j,hi,hj,hk,hij,hml,ht,hd⟩
    simp only at hi hj hml ht hd
    subst hi
    subst hj
    unfold O7
    simp only
    by_cases hjl:j<l.length
    ·left
     have hmj:m[j]'(by omega)=l[j]:=by
      have h1:m[j]? = l[j]?:=by
       have:=congrArg (fun q=>q[0]?) hd
       simpa [List.getElem?_drop] using this
      rw [a1w (by omega),a1w hjl] at h1
      exact Option.some.inj h1
     rw [if_pos (decide_eq_true (by omega)),w9 m j (by omega),hmj]
     simp only [Option.bind_some]
     rw [hf]
     simp only [Option.bind_some]
     unfold J5
     simp only
     rw [a7u (n:=j) (by omega)]
     have htk:(l.take (j+1)).filter (fun x=>!p x)=(l.take j).filter (fun x=>!p x) ++ [l[j]].filter (fun x=>!p x):=by rw [C9 hjl,List.filter_append]
     have hdj:l.drop (j+1)=(l.drop j).drop 1:=by rw [List.drop_drop]
     have hmd:m.drop (j+1)=(m.drop j).drop 1:=by rw [List.drop_drop]
     cases hp:p l[j] with
     | true=>
      rw [if_neg (by simp)]
      refine ⟨_,k - 1,rfl,⟨i,j+1,rfl,rfl,by omega,by omega,hml,?_,?_⟩,by omega⟩
      ·rw [htk,ht];simp [hp]
      ·simp only;rw [hdj,hmd,hd]
     | false=>
      rw [if_pos (by simp),w9 m i (by omega)]
      simp only [Option.bind_some]
      rw [a2w _ _ _ (by omega) (by omega),a7u (n:=i) (by omega)]
      simp only [Option.bind_some,Int.toNat_natCast]
      refine ⟨_,k - 1,rfl,⟨i+1,j+1,rfl,rfl,by omega,by omega,by simpa using hml,?_,?_⟩,by omega⟩
      ·simp only
       rw [htk,← ht,C9 (by simp;omega),List.take_set_of_le (Nat.le_refl _)]
       simp [hp]
      ·simp only
       rw [List.drop_set_of_lt (by omega),hdj,hmd,hd]
    ·right
     rw [if_neg (by simp;omega)]
     refine ⟨_,rfl,i,rfl,by omega,hml,?_⟩
     rw [List.take_of_length_le (show l.length≤j by omega)] at ht
     exact ht) (l.length - (i0+1)) (l,(i0:Int),((i0+1:Nat):Int)) ⟨i0,i0+1,rfl,rfl,by omega,by omega,rfl,by
     simp only
     rw [C9 hi0,List.filter_append,List.filter_eq_self.2 (fun a ha=>by rw [hall a ha];rfl)]
     simp [hp0],rfl⟩
  rw [em]
  simp only at he h2 h3
  subst he
  simp only [Option.bind_some]
  have hsub:D8 m (i:Int) (m.length:Int)=some (m.drop i):=by
   rw [a0B _ _ _ (by omega) (Nat.le_refl _),List.take_of_length_le (Nat.le_refl _)]
  rw [hsub]
  simp only [Option.bind_some]
  have hcl:(I1 m (i:Int) (m.length:Int) (List.replicate (m.drop i).length (⟨0,0⟩:Span))).take i=m.take i:=by
   unfold I1
   simp only [Int.toNat_natCast]
   rw [List.append_assoc,List.take_append_of_le_length (by rw [List.length_take];omega),List.take_take,Nat.min_self]
  have hlen:i≤(I1 m (i:Int) (m.length:Int) (List.replicate (m.drop i).length (⟨0,0⟩:Span))).length:=by
   unfold I1
   simp only [Int.toNat_natCast,List.length_append,List.length_take]
   omega
  have h0:=a0B (I1 m (i:Int) (m.length:Int) (List.replicate (m.drop i).length (⟨0,0⟩:Span))) 0 i (Nat.zero_le _) hlen
  rw [hcl] at h0
  have h0':D8 (I1 m (i:Int) (m.length:Int) (List.replicate (m.drop i).length (⟨0,0⟩:Span))) 0 (i:Int)=some (m.take i):=by
   simpa using h0
  rw [h0',h3]
  rfl
theorem b2B (x y:Int):cmp_Compare_int x y=some (if x<y then -1 else if y<x then 1 else 0):=by
 unfold cmp_Compare_int cmp_isNaN_int
 simp only [bne_self_eq_false,Option.bind_some,Bool.false_eq_true,if_false]
 by_cases h1:x<y
 ·simp [h1]
 ·by_cases h2:y<x <;> simp [h1,h2]
theorem from_ok:CmpOK (fun _=>True) a1I (fun x y=>decide (x.From<y.From)):=by
 refine ⟨fun x y _ _=>?_,fun x _=>by simp,fun x y z _ _ _ h1 h2=>?_,fun x y z _ _ _ h1 h2=>?_⟩
 ·unfold a1I
  rw [b2B]
  refine ⟨_,rfl,?_⟩
  by_cases h1:x.From<y.From
  ·simp [h1]
  ·by_cases h2:y.From<x.From <;> simp [h1,h2]
 ·simp only [decide_eq_true_eq] at *;omega
 ·simp only [decide_eq_false_iff_not] at *;omega
theorem b4X (l:List Span) (f:Span→Span→Option Int):Q6 l f=a7p l f:=rfl
theorem SR.pw {l:List Span} (h:SR (fun x y=>decide (x.From<y.From)) 0 l.length l):l.Pairwise (fun s t=>s.From≤t.From):=by
 rw [List.pairwise_iff_getElem]
 intro i j hi hj hij
 have:=h i j _ _ (Nat.zero_le _) hij hj (a1w hi) (a1w hj)
 simp only [decide_eq_false_iff_not] at this
 omega
theorem b3D {srt out:List Span} {i:Nat} (hi:i<srt.length) (ho:out.length≤100000) (hl:srt.length≤100000) :
  a2l srt (out,(i:Int))=some (.inl (a6Z out srt[i],((i+1:Nat):Int))):=by
 unfold a2l
 simp only
 rw [if_pos (decide_eq_true (by omega)),w9 _ _ hi]
 simp only [Option.bind_some]
 unfold a3X
 simp only
 rw [a7u (n:=i) (by omega)]
 rcases List.eq_nil_or_concat out with rfl | ⟨o,t,rfl⟩
 ·rw [a9s]
  simp only [List.length_nil]
  rw [if_neg (by decide)]
  simp only [Option.bind_some,Bool.false_eq_true,if_false]
  rw [E5 _ _ _ (by simp) (by decide)]
  rfl
 ·rw [List.concat_eq_append] at *
  have hlen:(((o ++ [t]).length:Nat):Int)=(o.length:Int)+1:=by simp
  have e1:w64 (((o ++ [t]).length:Int) - 1)=(o.length:Int):=by rw [hlen,G6 (by omega) (by omega)];omega
  rw [if_pos (decide_eq_true (by rw [hlen];omega)),e1,b4i]
  simp only [Option.bind_some]
  rw [a8k]
  by_cases hc:srt[i].From≤t.To
  ·rw [if_pos (decide_eq_true hc),if_pos hc,b1E]
   rfl
  ·rw [if_neg (by simpa using hc),if_neg hc,E5 _ _ _ (by simp at ho ⊢;omega) (by decide)]
   rfl
theorem b3E {srt:List Span} (hl:srt.length≤100000) (hne:∀ s∈srt,s.From<s.To) (hs:srt.Pairwise (fun s t=>s.From≤t.From)) :
  ∃ r,o5 (a2l srt) ([],0)=some r∧MI srt srt.length r:=
 Y5 (fun a i=>(a,i)) srt.length (fun i out=>MI srt i out) (fun r=>MI srt srt.length r) (fun i hi a h=>by
  have:=h.len
  exact ⟨_,b3D hi (by omega) hl,h.step hi hne hs⟩) (fun a h=>by
  unfold a2l
  simp only
  rw [if_neg (by simp)]
  exact ⟨_,rfl,h⟩) [] MI.zero
structure NS (l r:List Span):Prop where
 vs:VS r
 mem:∀ y,Mem r y↔Mem l y
 len:r.length≤l.length
 ends:∀ s∈r,(∃ t∈l,s.From=t.From)∧(∃ t∈l,s.To=t.To)
theorem NS.of {l f srt r:List Span} (hf:f=l.filter (fun s=>decide (s.From<s.To))) (hp:srt.Perm f) (h:MI srt srt.length r):NS l r:=by
 have hsub:∀ s∈srt,s∈l:=fun s hs=>(List.mem_filter.1 (hf ▸ hp.mem_iff.1 hs)).1
 refine ⟨h.vs,fun y=>?_,?_,fun s hs=>?_⟩
 ·rw [h.mem,List.take_of_length_le (Nat.le_refl _),mem_perm hp,hf,mem_filter]
 ·have h1:=h.len
  rw [hp.length_eq,hf] at h1
  exact Nat.le_trans h1 (List.length_filter_le _ _)
 ·obtain ⟨⟨t,ht,e⟩,⟨u,hu,e'⟩⟩:=h.ends s hs
  exact ⟨⟨t,hsub t ht,e⟩,⟨u,hsub u hu,e'⟩⟩
theorem a9M {l:List Span} (hl:l.length<100000):∃ r,a4F l=some r∧NS l r:=by
 unfold a4F
 rw [sclone _ (by omega)]
 simp only [Option.bind_some]
 rw [b2l (fun s=>!(decide (s.From<s.To))) a2Y (fun x=>rfl) l (by omega)]
 simp only [Option.bind_some,Bool.not_not]
 have hfl:(l.filter (fun s=>decide (s.From<s.To))).length≤l.length:=List.length_filter_le _ _
 obtain ⟨srt,es,hp,hln,hsr⟩:=a9E from_ok (l:=l.filter (fun s=>decide (s.From<s.To))) (fun _ _=>trivial) (by omega)
 rw [b4X,es]
 simp only [Option.bind_some]
 rw [← hln] at hsr
 obtain ⟨r,er,hr⟩:=b3E (srt:=srt) (by omega) (fun s hs=>by simpa using (List.mem_filter.1 (hp.mem_iff.1 hs)).2) hsr.pw
 rw [er]
 exact ⟨r,rfl,NS.of rfl hp hr⟩
theorem b2X {srt out:List Span} {i:Nat} (hi:i<srt.length) (ho:out.length≤100000) (hl:srt.length≤100000) :
  a1B srt (out,(i:Int))=some (.inl (a6Z out srt[i],((i+1:Nat):Int))):=by
 unfold a1B
 simp only
 rw [if_pos (decide_eq_true (by omega))]
 simp only [Option.bind_some]
 unfold a2S
 simp only
 rw [a7u (n:=i) (by omega)]
 rcases List.eq_nil_or_concat out with rfl | ⟨o,t,rfl⟩
 ·rw [a9s]
  simp only [List.length_nil]
  rw [if_neg (by decide)]
  simp only [Option.bind_some,Bool.false_eq_true,if_false]
  rw [w9 _ _ hi]
  simp only [Option.bind_some]
  rw [E5 _ _ _ (by simp) (by decide)]
  rfl
 ·rw [List.concat_eq_append] at *
  have hlen:(((o ++ [t]).length:Nat):Int)=(o.length:Int)+1:=by simp
  have e1:w64 (((o ++ [t]).length:Int) - 1)=(o.length:Int):=by rw [hlen,G6 (by omega) (by omega)];omega
  rw [if_pos (decide_eq_true (by rw [hlen];omega)),e1,b4i,w9 _ _ hi]
  simp only [Option.bind_some]
  rw [a8k]
  by_cases hc:srt[i].From≤t.To
  ·rw [if_pos (decide_eq_true hc),if_pos hc,b1E]
   rfl
  ·rw [if_neg (by simpa using hc),if_neg hc,E5 _ _ _ (by simp at ho ⊢;omega) (by decide)]
   rfl
theorem b2Y {srt:List Span} (hl:srt.length≤100000) (hne:∀ s∈srt,s.From<s.To) (hs:srt.Pairwise (fun s t=>s.From≤t.From)) :
  ∃ r,o5 (a1B srt) ([],0)=some r∧MI srt srt.length r:=
 Y5 (fun a i=>(a,i)) srt.length (fun i out=>MI srt i out) (fun r=>MI srt srt.length r) (fun i hi a h=>by
  have:=h.len
  exact ⟨_,b2X hi (by omega) hl,h.step hi hne hs⟩) (fun a h=>by
  unfold a1B
  simp only
  rw [if_neg (by simp)]
  exact ⟨_,rfl,h⟩) [] MI.zero
theorem rplace {l s:List Span} {i:Nat} (hi:i<l.length) (hs:s.Pairwise (fun s t=>s.From≤t.From)) (hl:s.length≤100000) :
  ∃ e:Nat,o5 (a2U l (s,(i:Int))) (s.length:Int)=some (e:Int)∧e≤s.length∧(∀ t∈s.take e,t.From≤l[i].From)∧(∀ t∈s.drop e,l[i].From≤t.From):=by
 obtain ⟨r,er,e,he,h⟩:=R3 (b1:=a2U l (s,(i:Int)))
  (fun k q=>∃ e:Nat,q=(e:Int)∧k=e∧e≤s.length∧(∀ t∈s.drop e,l[i].From≤t.From))
  (fun r=>∃ e:Nat,r=(e:Int)∧e≤s.length∧(∀ t∈s.take e,t.From≤l[i].From)∧(∀ t∈s.drop e,l[i].From≤t.From)) (by
   rintro k q ⟨e,rfl,hk,h1,h2⟩
   unfold a2U
   simp only
   by_cases h0:0<e
   ·have e1:w64 ((e:Int) - 1)=((e - 1:Nat):Int):=b4v (by omega) (by omega)
    rw [if_pos (decide_eq_true (by omega)),e1,w9 s (e - 1) (by omega),w9 _ _ hi]
    simp only [Option.bind_some]
    by_cases hc:l[i].From<s[e - 1].From
    ·left
     rw [if_pos (decide_eq_true hc)]
     refine ⟨_,k - 1,rfl,⟨e - 1,rfl,by omega,by omega,fun t ht=>?_⟩,by omega⟩
     rw [List.drop_eq_getElem_cons (by omega),show e - 1+1=e by omega] at ht
     rcases List.mem_cons.1 ht with rfl | ht
     ·omega
     ·exact h2 t ht
    ·right
     rw [if_neg (by simpa using hc)]
     refine ⟨_,rfl,e,rfl,h1,fun t ht=>?_,h2⟩
     rw [show e=e - 1+1 by omega,C9 (by omega)] at ht
     rcases List.mem_append.1 ht with ht | ht
     ·obtain ⟨j,hj⟩:=List.mem_iff_getElem?.1 ht
      rw [List.getElem?_take] at hj
      split at hj
      ·next hlt=>
       obtain ⟨hjl,hj'⟩:=a7w hj
       have:=List.pairwise_iff_getElem.1 hs j (e - 1) hjl (by omega) hlt
       rw [hj'] at this
       omega
      ·cases hj
     ·rcases List.mem_singleton.1 ht with rfl;omega
   ·right
    rw [if_neg (by simp;omega)]
    simp only [Option.bind_some,Bool.false_eq_true,if_false]
    have:e=0:=by omega
    subst this
    exact ⟨_,rfl,0,rfl,h1,by simp,h2⟩) s.length (s.length:Int) ⟨s.length,rfl,rfl,Nat.le_refl _,by simp⟩
 subst he
 exact ⟨e,er,h⟩
theorem rinsert {s:List Span} {x:Span} {e:Nat} (he:e≤s.length) (hl:s.length≤100000) :
  D8 (s ++ [x]) ((e+1:Nat):Int) ((s ++ [x]).length:Int)=some (s.drop (e+1) ++ [x].drop (e+1 - s.length))∧D8 (s ++ [x]) (e:Int) ((s ++ [x]).length:Int)=some (s.drop e ++ [x]) ∧
  ∃ q,q=I1 (s ++ [x]) ((e+1:Nat):Int) ((s ++ [x]).length:Int) (s.drop e ++ [x])∧e<q.length∧q.set e x=s.take e ++ ([x] ++ s.drop e):=by
 have hlen:(s ++ [x]).length=s.length+1:=by simp
 refine ⟨?_,?_,_,rfl,?_,?_⟩
 ·rw [a0B _ _ _ (by omega) (Nat.le_refl _),List.take_of_length_le (Nat.le_refl _),List.drop_append]
 ·rw [a0B _ _ _ (by omega) (Nat.le_refl _),List.take_of_length_le (Nat.le_refl _),List.drop_append_of_le_length he]
 ·unfold I1
  simp only [Int.toNat_natCast,List.length_append,List.length_take,List.length_drop,List.length_cons,List.length_nil]
  omega
 ·unfold I1
  simp only [Int.toNat_natCast]
  have e1:(s.drop e ++ [x]).take ((s ++ [x]).length - (e+1))=s.drop e:=by
   rw [hlen,List.take_append_of_le_length (by rw [List.length_drop];omega),List.take_of_length_le (by rw [List.length_drop];omega)]
  have e2:(s ++ [x]).drop (e+1+min (s.drop e ++ [x]).length ((s ++ [x]).length - (e+1)))=[]:=by
   apply List.drop_eq_nil_of_le
   simp only [List.length_append,List.length_drop,List.length_cons,List.length_nil]
   omega
  rw [e1,e2,List.append_nil]
  have e3:(s ++ [x]).take (e+1)=s.take e ++ [(s ++ [x])[e]'(by omega)]:=by
   rw [C9 (by omega),List.take_append_of_le_length he]
  rw [e3,List.append_assoc,List.set_append,if_neg (by rw [List.length_take];omega)]
  have:e - (s.take e).length=0:=by rw [List.length_take];omega
  rw [this]
  rfl
theorem a6y {l:List Span} (hl:l.length≤100000):∃ r,a2t l=some r∧NS l r:=by
 obtain ⟨srt,es,hpw,hp⟩:=Y5 (body:=a2T l) (fun a i=>(a,i)) l.length
  (fun i s=>s.Pairwise (fun s t=>s.From≤t.From)∧s.Perm ((l.take i).filter (fun s=>decide (s.From<s.To))))
  (fun s=>s.Pairwise (fun s t=>s.From≤t.From)∧s.Perm (l.filter (fun s=>decide (s.From<s.To)))) (fun i hi s ⟨h1,h2⟩=>by
   have hsl:s.length≤i:=by
    rw [h2.length_eq]
    exact Nat.le_trans (List.length_filter_le _ _) (by rw [List.length_take];omega)
   unfold a2T
   simp only
   unfold a2R
   simp only
   rw [if_pos (decide_eq_true (by omega)),w9 _ _ hi,a7u (n:=i) (by omega)]
   simp only [Option.bind_some]
   by_cases hc:l[i].To≤l[i].From
   ·rw [if_pos (decide_eq_true hc)]
    refine ⟨s,rfl,h1,?_⟩
    rw [C9 hi,List.filter_append]
    have:¬ l[i].From<l[i].To:=by omega
    simpa [this] using h2
   ·rw [if_neg (by simpa using hc)]
    obtain ⟨e,ee,he,ha,hb⟩:=rplace hi h1 (by omega)
    rw [ee]
    simp only [Option.bind_some]
    rw [E5 _ _ _ (by simp;omega) (by decide),a7u (n:=e) (by omega)]
    simp only [Option.bind_some]
    obtain ⟨q1,q2,q,eq,hq,hset⟩:=rinsert (s:=s) (x:=l[i]) he (by omega)
    rw [q1,q2]
    simp only [Option.bind_some]
    rw [← eq,w9 _ _ hq]
    simp only [Option.bind_some]
    rw [a2w _ _ _ (by omega) (by omega),Int.toNat_natCast,hset]
    refine ⟨_,rfl,?_,?_⟩
    ·rw [List.pairwise_append,List.pairwise_append]
     refine ⟨h1.sublist (List.take_sublist _ _),⟨List.pairwise_singleton _ _,h1.sublist (List.drop_sublist _ _),fun a ha' b hb'=>?_⟩,fun a ha' b hb'=>?_⟩
     ·rcases List.mem_singleton.1 ha' with rfl
      exact hb b hb'
     ·rcases List.mem_append.1 hb' with hb' | hb'
      ·rcases List.mem_singleton.1 hb' with rfl
       exact ha a ha'
      ·obtain ⟨j,hj⟩:=List.mem_iff_getElem?.1 ha'
       obtain ⟨k,hk⟩:=List.mem_iff_getElem?.1 hb'
       have h3:=ha a ha'
       have h4:=hb b hb'
       omega
    ·have h3:(s.take e ++ ([l[i]] ++ s.drop e)).Perm (s ++ [l[i]]):=by
      have h4:(s.take e ++ ([l[i]] ++ s.drop e)).Perm (s.take e ++ (s.drop e ++ [l[i]])):=List.Perm.append_left _ List.perm_append_comm
      rw [← List.append_assoc (s.take e) (s.drop e),List.take_append_drop] at h4
      exact h4
     refine h3.trans ?_
     rw [C9 hi,List.filter_append]
     have:l[i].From<l[i].To:=by omega
     have e1:[l[i]].filter (fun s=>decide (s.From<s.To))=[l[i]]:=by simp [this]
     rw [e1]
     exact List.Perm.append_right _ h2) (fun s ⟨h1,h2⟩=>by
   unfold a2T
   simp only
   rw [if_neg (by simp)]
   rw [List.take_of_length_le (Nat.le_refl _)] at h2
   exact ⟨s,rfl,h1,h2⟩) [] ⟨List.Pairwise.nil,by simp⟩
 have hsl:srt.length≤l.length:=by
  rw [hp.length_eq];exact List.length_filter_le _ _
 unfold a2t
 rw [es]
 simp only [Option.bind_some]
 obtain ⟨r,er,hr⟩:=b2Y (srt:=srt) (by omega) (fun s hs=>by simpa using (List.mem_filter.1 (hp.mem_iff.1 hs)).2) hpw
 rw [er]
 exact ⟨r,rfl,NS.of rfl hp hr⟩
theorem NS.uniq {l r s:List Span} (h1:NS l r) (h2:NS l s):r=s:=h1.vs.uniq h2.vs (fun x=>(h1.mem x).trans (h2.mem x).symm)
theorem NS.self {l r:List Span} (h:NS l r) (hv:VS l):r=l:=h.vs.uniq hv h.mem
end Go.Proofs.YteanekphncdhiaaGreat.Sh
namespace Go.Proofs.YteanekphncdhiaaGreat.Sh
open Go
set_option linter.unusedVariables false
set_option linter.unusedSimpArgs false
instance decSpan:DecidableEq Span:=fun a b=>decidable_of_iff (a.From=b.From∧a.To=b.To) ⟨fun ⟨h1,h2⟩=>by cases a;cases b;simp_all,fun h=>by rw [h];exact ⟨rfl,rfl⟩⟩
theorem b4W (a b:List Span) (ha:a.length≤1000000):a4g a b=some (decide (a=b)):=by
 unfold a4g
 by_cases hl:a.length=b.length
 ·rw [if_neg (by simp;omega)]
  refine b4L a b (fun x y=>(x.From == y.From) && ((x.To == y.To) && true)) (fun x y=>?_) hl (fun i hi he=>?_) (fun i hi he=>?_) ?_
  ·cases x;cases y;simp
  ·unfold a4q
   rw [if_pos (decide_eq_true (by omega)),w9 _ _ hi,w9 b i (by omega)]
   simp only [Option.bind_some]
   rw [he,a7u (by omega)]
   rfl
  ·unfold a4q
   rw [if_pos (decide_eq_true (by omega)),w9 _ _ hi,w9 b i (by omega)]
   simp only [Option.bind_some]
   rw [he]
   rfl
  ·unfold a4q
   rw [if_neg (by simp)]
   rfl
 ·rw [if_pos (by simp;omega),decide_eq_false (fun h=>hl (by rw [h]))]
theorem b1D (a:List Span) (ha:a.length≤1000000):a4g a a=some true:=by rw [b4W a a ha,decide_eq_true rfl]
def EB (lo hi:Int) (l:List Span):Prop:=∀ s∈l,(lo≤s.From∧s.From≤hi)∧(lo≤s.To∧s.To≤hi)
theorem EB.app {lo hi:Int} {a b:List Span} (ha:EB lo hi a) (hb:EB lo hi b):EB lo hi (a ++ b):=fun s hs=>(List.mem_append.1 hs).elim (ha s) (hb s)
theorem EB.one {lo hi:Int} {s:Span} (h:(lo≤s.From∧s.From≤hi)∧(lo≤s.To∧s.To≤hi)):EB lo hi [s]:=fun t ht=>by
 rcases List.mem_singleton.1 ht with rfl;exact h
theorem NS.eb {l r:List Span} (h:NS l r) {lo hi:Int} (hl:EB lo hi l):EB lo hi r:=fun s hs=>by
 obtain ⟨⟨t,ht,e⟩,u,hu,e'⟩:=h.ends s hs
 rw [e,e']
 exact ⟨(hl t ht).1,(hl u hu).2⟩
theorem a9O {a b:List Span} (h:a.length+b.length≤10000):∃ r,a3n a b=some r∧NS (a ++ b) r:=by
 unfold a3n
 rw [E5 _ _ _ (by simp;omega) (by decide)]
 simp only [Option.bind_some,List.nil_append]
 rw [E5 _ _ _ (by omega) (by decide)]
 simp only [Option.bind_some]
 obtain ⟨r,er,hr⟩:=a6y (l:=a ++ b) (by simp;omega)
 rw [er]
 exact ⟨r,rfl,hr⟩
theorem a8O {l:List Span} {i:Nat} (hi:i<l.length) {z:Int}:Mem (l.drop i) z↔(l[i].From≤z∧z<l[i].To)∨Mem (l.drop (i+1)) z:=by
 rw [List.drop_eq_getElem_cons hi,mem_cons]
theorem VS.later {l:List Span} (h:VS l) {i:Nat} (hi:i<l.length):∀ u∈l.drop (i+1),l[i].To<u.From:=by
 have hp:=h.ap.sublist (List.drop_sublist i l)
 rw [List.drop_eq_getElem_cons hi] at hp
 exact (List.pairwise_cons.1 hp).1
theorem VS.laterM {l:List Span} (h:VS l) {i:Nat} (hi:i<l.length) {z:Int} (hz:Mem (l.drop (i+1)) z):l[i].To<z:=by
 obtain ⟨u,hu,q⟩:=hz
 have:=h.later hi u hu
 omega
structure MN (q:List Span) (x:Span) (out0:List Span) (k:Nat) (out:List Span) (at_:Int):Prop where
 vs:VS out
 low:x.From≤at_
 mem:∀ z,Mem out z↔Mem out0 z∨((x.From≤z∧z<x.To)∧z<at_∧¬ Mem q z)
 ord:∀ s∈out,s.To<at_∧s.To≤x.To
 done:∀ u∈q.take k,u.To≤at_∨x.To≤u.From
 len:out.length≤out0.length+k
 eb:∀ lo hi,EB lo hi q→EB lo hi out0→(lo≤x.From∧x.From≤hi)∧(lo≤x.To∧x.To≤hi)→EB lo hi out∧lo≤at_∧at_≤hi
theorem MN.zero {q:List Span} {x:Span} {out0:List Span} (h0:VS out0) (hx:x.From<x.To) (ho:∀ s∈out0,s.To<x.From):MN q x out0 0 out0 x.From:=
 ⟨h0,Int.le_refl _,fun z=>⟨.inl,fun h=>h.elim id (fun h=>by omega)⟩,fun s hs=>⟨ho s hs,by have:=ho s hs;omega⟩,fun u hu=>(by simp at hu),Nat.le_refl _,fun lo hi h1 h2 h3=>⟨h2,by omega,by omega⟩⟩
theorem b2S {q:List Span} (hq:VS q) (hql:q.length≤10000) {x:Span} (hx:x.From<x.To) {out0:List Span} (h0:VS out0) (hol:out0.length≤900000) (ho:∀ s∈out0,s.To<x.From) :
  ∃ r,o5 (a1N q x) (out0,x.From,0)=some r∧MN q x out0 q.length r.1 r.2:=by
 refine Y5 (fun (a:List Span × Int) i=>(a.1,a.2,i)) q.length (fun k a=>MN q x out0 k a.1 a.2) _ (fun k hk a h=>?_) (fun a h=>?_) (out0,x.From) (MN.zero h0 hx ho)
 ·obtain ⟨out,at_⟩:=a
  simp only at h
  have hlen:=h.len
  have hlow:=h.low
  have hny:=hq.ne _ (List.getElem_mem hk)
  unfold a1N
  simp only
  rw [if_pos (decide_eq_true (by omega)),w9 _ _ hk]
  simp only [Option.bind_some]
  unfold a2N a2M
  simp only
  rw [a7u (n:=k) (by omega)]
  have htk:∀ P:Span→Prop,(∀ u∈q.take k,P u)→P q[k]→∀ u∈q.take (k+1),P u:=fun P h1 h2 u hu=>by
   rw [C9 hk] at hu
   rcases List.mem_append.1 hu with hu | hu
   ·exact h1 u hu
   ·rcases List.mem_singleton.1 hu with rfl;exact h2
  by_cases hsk:q[k].To≤at_∨x.To≤q[k].From
  ·rw [if_pos (by simpa using hsk)]
   exact ⟨(out,at_),rfl,h.vs,h.low,h.mem,h.ord,htk _ h.done hsk,by simp only;omega,h.eb⟩
  ·have hsk1:at_<q[k].To:=by omega
   have hsk2:q[k].From<x.To:=by omega
   rw [if_neg (by simp;omega)]
   have hmax:max at_ q[k].To=q[k].To:=by omega
   have hin:∀ z,at_≤z→z<x.To→z<q[k].To→(Mem q z↔q[k].From≤z):=by
    intro z z1 z2 z3
    constructor
    ·rintro ⟨u,hu,g⟩
     have hsplit:u∈q.take k ++ q[k] :: q.drop (k+1):=by
      rw [← List.drop_eq_getElem_cons hk,List.take_append_drop];exact hu
     rcases List.mem_append.1 hsplit with hu' | hu'
     ·rcases h.done u hu' with g1 | g1 <;> omega
     ·rcases List.mem_cons.1 hu' with rfl | hu'
      ·exact g.1
      ·have:=hq.later hk u hu';omega
    ·exact fun g=>⟨_,List.getElem_mem hk,g,z3⟩
   have hdone:∀ u∈q.take (k+1),u.To≤q[k].To∨x.To≤u.From:=htk _ (fun u hu=>(h.done u hu).elim (fun g=>.inl (by omega)) .inr) (.inl (Int.le_refl _))
   by_cases hgap:at_<q[k].From
   ·rw [if_pos (decide_eq_true hgap),E5 _ _ _ (by simp;omega) (by decide)]
    simp only [Option.bind_some]
    rw [hmax]
    refine ⟨(out ++ [⟨at_,q[k].From⟩],q[k].To),rfl,h.vs.snoc hgap (fun s hs=>(h.ord s hs).1),by simp only;omega,fun z=>?_,fun s hs=>?_,hdone,by simp;omega,fun lo hi e1 e2 e3=>?_⟩
    ·rw [mem_append,a0M,h.mem]
     simp only
     constructor
     ·rintro ((g | g) | g)
      ·exact .inl g
      ·exact .inr ⟨g.1,by omega,g.2.2⟩
      ·refine .inr ⟨by omega,by omega,fun g'=>?_⟩
       have:=(hin z (by omega) (by omega) (by omega)).1 g'
       omega
     ·rintro (g | ⟨g1,g2,g3⟩)
      ·exact .inl (.inl g)
      ·by_cases hz:z<at_
       ·exact .inl (.inr ⟨g1,hz,g3⟩)
       ·by_cases hz2:z<q[k].From
        ·exact .inr ⟨by omega,hz2⟩
        ·exact absurd ((hin z (by omega) (by omega) g2).2 (by omega)) g3
    ·rcases List.mem_append.1 hs with hs | hs
     ·have:=h.ord s hs
      simp only
      omega
     ·rcases List.mem_singleton.1 hs with rfl
      simp only
      omega
    ·obtain ⟨b1,b2,b3⟩:=h.eb lo hi e1 e2 e3
     have b4:=e1 _ (List.getElem_mem hk)
     exact ⟨b1.app (EB.one (by simp only;omega)),by simp only;omega,by simp only;omega⟩
   ·rw [if_neg (by simpa using hgap)]
    rw [hmax]
    refine ⟨(out,q[k].To),rfl,h.vs,by simp only;omega,fun z=>?_,fun s hs=>?_,hdone,by simp only;omega,fun lo hi e1 e2 e3=>?_⟩
    ·rw [h.mem]
     constructor
     ·rintro (g | g)
      ·exact .inl g
      ·exact .inr ⟨g.1,by simp only;omega,g.2.2⟩
     ·rintro (g | ⟨g1,g2,g3⟩)
      ·exact .inl g
      ·by_cases hz:z<at_
       ·exact .inr ⟨g1,hz,g3⟩
       ·exact absurd ((hin z (by omega) (by omega) g2).2 (by omega)) g3
    ·have:=h.ord s hs
     simp only
     omega
    ·obtain ⟨b1,b2,b3⟩:=h.eb lo hi e1 e2 e3
     have b4:=e1 _ (List.getElem_mem hk)
     exact ⟨b1,by simp only;omega,by simp only;omega⟩
 ·unfold a1N
  simp only
  rw [if_neg (by simp)]
  exact ⟨_,rfl,h⟩
structure LS (p q r:List Span):Prop where
 vs:VS r
 mem:∀ z,Mem r z↔Mem p z∧¬ Mem q z
 len:r.length≤p.length * (q.length+1)
 eb:∀ lo hi,EB lo hi p→EB lo hi q→EB lo hi r
structure MO (p q:List Span) (i:Nat) (out:List Span):Prop where
 vs:VS out
 mem:∀ z,Mem out z↔Mem (p.take i) z∧¬ Mem q z
 ord:∀ s∈out,∀ u∈p.drop i,s.To<u.From
 len:out.length≤i * (q.length+1)
 eb:∀ lo hi,EB lo hi p→EB lo hi q→EB lo hi out
theorem MO.step {p q out o2:List Span} {at_:Int} {i:Nat} (hp:VS p) (hi:i<p.length) (h:MO p q i out) (hn:MN q p[i] out q.length o2 at_) :
  MO p q (i+1) (if at_<p[i].To then o2 ++ [⟨at_,p[i].To⟩] else o2):=by
 have hx:=hp.ne _ (List.getElem_mem hi)
 have hdn:∀ u∈q,u.To≤at_∨p[i].To≤u.From:=fun u hu=>hn.done u (by rw [List.take_of_length_le (Nat.le_refl _)];exact hu)
 have hlow:=hn.low
 have hl1:=hn.len
 have hl2:=h.len
 refine ⟨?_,fun z=>?_,fun s hs u hu=>?_,?_,fun lo hi' e1 e2=>?_⟩
 ·split
  ·next hc=>exact hn.vs.snoc hc (fun s hs=>(hn.ord s hs).1)
  ·exact hn.vs
 ·have hbase:(Mem o2 z∨(at_≤z∧z<p[i].To))↔Mem (p.take (i+1)) z∧¬ Mem q z:=by
   rw [hn.mem,h.mem,C9 hi,mem_append,a0M]
   constructor
   ·rintro ((g | g) | g)
    ·exact ⟨.inl g.1,g.2⟩
    ·exact ⟨.inr g.1,g.2.2⟩
    ·refine ⟨.inr ⟨by omega,g.2⟩,fun ⟨u,hu,g'⟩=>?_⟩
     rcases hdn u hu with k | k <;> omega
   ·rintro ⟨g | g,g'⟩
    ·exact .inl (.inl ⟨g,g'⟩)
    ·by_cases hz:z<at_
     ·exact .inl (.inr ⟨g,hz,g'⟩)
     ·exact .inr ⟨by omega,g.2⟩
  split
  ·rw [mem_append,a0M]
   exact hbase
  ·rw [← hbase]
   exact ⟨.inl,fun g=>g.elim id (fun g=>by omega)⟩
 ·have hlt:=hp.later hi u hu
  split at hs
  ·rcases List.mem_append.1 hs with hs | hs
   ·have:=(hn.ord s hs).2;omega
   ·rcases List.mem_singleton.1 hs with rfl
    simp only
    omega
  ·have:=(hn.ord s hs).2;omega
 ·have:(i+1) * (q.length+1)=i * (q.length+1)+(q.length+1):=Nat.succ_mul _ _
  split
  ·simp;omega
  ·omega
 ·have bx:=e1 _ (List.getElem_mem hi)
  obtain ⟨b1,b2,b3⟩:=hn.eb lo hi' e2 (h.eb lo hi' e1 e2) bx
  split
  ·exact b1.app (EB.one (by simp only;omega))
  ·exact b1
theorem b0t {p q:List Span} (hp:VS p) (hq:VS q) (h1:p.length * (q.length+1)≤900000) (h2:q.length≤10000) (h3:p.length≤100000):∃ r,o5 (a1M q p) ([],0)=some r∧LS p q r:=by
 have hb:∀ i,i≤p.length→i * (q.length+1)≤900000:=fun i hi=>Nat.le_trans (Nat.mul_le_mul hi (Nat.le_refl _)) h1
 refine Y5 (fun a i=>(a,i)) p.length (MO p q) _ (fun i hi a h=>?_) (fun a h=>?_) [] ⟨VS.nil,fun z=>by simp [Mem],fun s h=>(by cases h),Nat.zero_le _,fun _ _ _ _ s h=>(by cases h)⟩
 ·have hl:=h.len
  have hb1:=hb i (by omega)
  unfold a1M
  simp only
  rw [if_pos (decide_eq_true (by omega)),w9 _ _ hi]
  simp only [Option.bind_some]
  obtain ⟨⟨o2,at_⟩,er,hn⟩:=b2S hq (by omega) (hp.ne _ (List.getElem_mem hi)) h.vs (by omega) (fun s hs=>h.ord s hs _ (by rw [List.drop_eq_getElem_cons hi];exact List.mem_cons_self))
  rw [er]
  simp only at hn
  have hl2:=hn.len
  have hst:=MO.step hp hi h hn
  unfold a2O
  simp only [Option.bind_some]
  rw [a7u (n:=i) (by omega)]
  refine ⟨_,?_,hst⟩
  by_cases hc:at_<p[i].To
  ·rw [if_pos (decide_eq_true hc),if_pos hc,E5 _ _ _ (by simp;omega) (by decide)]
   rfl
  ·rw [if_neg (by simpa using hc),if_neg hc]
 ·unfold a1M
  simp only
  rw [if_neg (by simp)]
  have hm:=h.mem
  rw [List.take_of_length_le (Nat.le_refl _)] at hm
  exact ⟨a,rfl,h.vs,hm,h.len,h.eb⟩
theorem b2T {a b:List Span} (ha:a.length * (b.length+1)≤900000) (hb:b.length≤10000) (hl:a.length<100000):∃ r,a6z a b=some r∧LS a b r:=by
 unfold a6z
 obtain ⟨p,ep,hp⟩:=a9M (l:=a) (by omega)
 obtain ⟨q,eq,hq⟩:=a9M (l:=b) (by omega)
 rw [ep,eq]
 simp only [Option.bind_some]
 have l1:=hp.len
 have l2:=hq.len
 obtain ⟨r,er,hr⟩:=b0t hp.vs hq.vs (Nat.le_trans (Nat.mul_le_mul l1 (Nat.add_le_add_right l2 1)) ha) (by omega) (by omega)
 rw [er]
 exact ⟨r,rfl,hr.vs,fun z=>by rw [hr.mem,hp.mem,hq.mem],Nat.le_trans hr.len (Nat.mul_le_mul l1 (by omega)),fun lo hi h1 h2=>hr.eb lo hi (hp.eb h1) (hq.eb h2)⟩
end Go.Proofs.YteanekphncdhiaaGreat.Sh
namespace Go.Proofs.YteanekphncdhiaaGreat.Sh
open Go
set_option linter.unusedVariables false
set_option linter.unusedSimpArgs false
theorem minus6 {p q o:List Span} {i:Int} {x:Span} (hx:ix p i=some x):a5c p q (o,i)=a1N q x:=by
 funext s
 unfold a5c a1N a3E a2N a3D a2M
 simp only [hx,Option.bind_some]
 cases hk:ix q s.2.2 with
 | none=>rfl
 | some y=>
  simp only [Option.bind_some]
  by_cases h1:y.To≤s.2.1
  ·simp [h1]
  ·by_cases h2:x.To≤y.From
   ·simp [h1,h2]
   ·simp [h1,h2]
theorem minus3 (p q:List Span):a5b p q=a1M q p:=by
 funext s
 unfold a5b a1M a3F a2O
 cases hk:ix p s.2 with
 | none=>rfl
 | some x=>
  simp only [Option.bind_some]
  have e:s=(s.1,s.2):=rfl
  rw [e,minus6 hk]
theorem a9b {a b:List Span} (ha:a.length * (b.length+1)≤900000) (hb:b.length≤1000) (hl:a.length≤100000):∃ r,a3m a b=some r∧LS a b r:=by
 unfold a3m
 obtain ⟨p,ep,hp⟩:=a6y (l:=a) (by omega)
 obtain ⟨q,eq,hq⟩:=a6y (l:=b) (by omega)
 have l1:=hp.len
 have l2:=hq.len
 rw [ep,eq]
 simp only [Option.bind_some]
 obtain ⟨r,er,hr⟩:=b0t hp.vs hq.vs (Nat.le_trans (Nat.mul_le_mul l1 (Nat.add_le_add_right l2 1)) ha) (by omega) (by omega)
 rw [minus3,er]
 refine ⟨r,rfl,hr.vs,fun z=>by rw [hr.mem,hp.mem,hq.mem],?_,fun lo hi ea eb=>hr.eb lo hi (hp.eb ea) (hq.eb eb)⟩
 have h1:=hr.len
 have h2:=Nat.mul_le_mul l1 (Nat.add_le_add_right l2 1)
 omega
theorem b2Z {a b:List Span} (ha:a.length≤100) (hb:b.length≤100):∃ r,a3m a b=some r∧LS a b r:=
 a9b (Nat.le_trans (Nat.mul_le_mul ha (show b.length+1≤101 by omega)) (by decide)) (by omega) (by omega)
end Go.Proofs.YteanekphncdhiaaGreat.Sh
namespace Go.Proofs.YteanekphncdhiaaGreat.Sh
open Go
set_option linter.unusedVariables false
set_option linter.unusedSimpArgs false
theorem a3l {α γ:Type} {body:List γ × Int→Option ((List γ × Int) ⊕ List γ)} (l:List α) (f:α→List γ) (m M:Nat) (pre:List γ) (hm:∀ x∈l,(f x).length≤m) (hM:pre.length+l.length * m≤M)
  (h1:∀ i (hi:i<l.length) (out:List γ),out.length+m≤M→body (out,(i:Int))=some (.inl (out ++ f l[i],((i+1:Nat):Int)))) (h2:∀ out,body (out,(l.length:Int))=some (.inr out)) :
  o5 body (pre,0)=some (pre ++ l.flatMap f):=by
 obtain ⟨r,er,hr⟩:=Y5 (body:=body) (fun a i=>(a,i)) l.length (fun i a=>a=pre ++ (l.take i).flatMap f∧a.length≤pre.length+i * m) (fun r=>r=pre ++ l.flatMap f) (fun i hi a ⟨ha,hl⟩=>by
  have e1:(i+1) * m≤l.length * m:=Nat.mul_le_mul_right m hi
  have e2:(i+1) * m=i * m+m:=Nat.succ_mul _ _
  have e3:=hm _ (List.getElem_mem hi)
  refine ⟨_,h1 i hi a (by omega),?_,by rw [List.length_append];omega⟩
  rw [ha,C9 hi,List.flatMap_append]
  simp) (fun a ⟨ha,hl⟩=>⟨a,h2 a,by rw [ha,List.take_length]⟩) pre ⟨by simp,by omega⟩
 rw [er,hr]
theorem b0s {α:Type} {f:α→List Span} {l:List α} {x:Int}:Mem (l.flatMap f) x↔∃ a∈l,Mem (f a) x:=by
 unfold Mem
 simp only [List.mem_flatMap]
 constructor
 ·rintro ⟨s,⟨a,ha,hs⟩,h⟩;exact ⟨a,ha,s,hs,h⟩
 ·rintro ⟨a,ha,s,hs,h⟩;exact ⟨s,⟨a,ha,hs⟩,h⟩
theorem a3v {α γ:Type} {f:α→List γ} {m:Nat}:∀ {l:List α},(∀ x∈l,(f x).length≤m)→(l.flatMap f).length≤l.length * m
 | [],_=>by simp
 | a :: l,h=>by
  have:=a3v (f:=f) (m:=m) (l:=l) fun x hx=>h x (List.mem_cons_of_mem _ hx)
  have h1:=h a List.mem_cons_self
  rw [List.flatMap_cons,List.length_append,List.length_cons,Nat.succ_mul];omega
theorem b1V {α:Type} [DecidableEq α]:∀ {l m:List α},l.Nodup→(∀ x∈l,x∈m)→l.length≤m.length
 | [],_,_,_=>by simp
 | a :: l,m,hn,h=>by
  obtain ⟨h1,h2⟩:=List.nodup_cons.1 hn
  have ha:=h a List.mem_cons_self
  have:=b1V (l:=l) (m:=m.erase a) h2 fun x hx=>(List.mem_erase_of_ne (fun e=>h1 (by rw [← e];exact hx))).2 (h x (List.mem_cons_of_mem _ hx))
  rw [List.length_erase_of_mem ha] at this
  have:=List.length_pos_of_mem ha
  rw [List.length_cons];omega
theorem VS.edge {r:List Span} (h:VS r) {s:Span} (hs:s∈r):Mem r s.From∧¬ Mem r (s.From - 1):=by
 have hne:=h.ne s hs
 refine ⟨⟨s,hs,Int.le_refl _,hne⟩,fun ⟨t,ht,h1,h2⟩=>?_⟩
 have hts:t≠s:=fun e=>by subst e;omega
 rcases b1B (R:=fun a b:Span=>a.To<b.From∨b.To<a.From) (fun a b h=>h.symm) (h.ap.imp fun h=>.inl h) t ht s hs hts with g | g
 ·omega
 ·omega
theorem b4H {p:List Span} {x:Int} (h1:Mem p x) (h2:¬ Mem p (x - 1)):x∈p.map (·.From):=by
 obtain ⟨t,ht,a,b⟩:=h1
 by_cases e:t.From=x
 ·exact List.mem_map.2 ⟨t,ht,e⟩
 ·exact absurd ⟨t,ht,by omega,by omega⟩ h2
theorem edge_to {p:List Span} {x:Int} (h1:Mem p (x - 1)) (h2:¬ Mem p x):x∈p.map (·.To):=by
 obtain ⟨t,ht,a,b⟩:=h1
 by_cases e:t.To=x
 ·exact List.mem_map.2 ⟨t,ht,e⟩
 ·exact absurd ⟨t,ht,by omega,by omega⟩ h2
theorem LS.len2 {p q r:List Span} (h:LS p q r):r.length≤p.length+q.length:=by
 have hn:(r.map (·.From)).Nodup:=by
  rw [List.nodup_iff_pairwise_ne,List.pairwise_map]
  refine h.vs.ap.imp_of_mem fun {a b} ha hb hab=>?_
  have:=h.vs.ne a ha
  omega
 have:=b1V (m:=p.map (·.From) ++ q.map (·.To)) hn fun x hx=>by
  obtain ⟨s,hs,rfl⟩:=List.mem_map.1 hx
  obtain ⟨e1,e2⟩:=h.vs.edge hs
  rw [h.mem] at e1 e2
  rw [List.mem_append]
  by_cases hp:Mem p (s.From - 1)
  ·by_cases hq:Mem q (s.From - 1)
   ·exact .inr (edge_to hq e1.2)
   ·exact absurd ⟨hp,hq⟩ e2
  ·exact .inl (b4H e1.1 hp)
 simpa using this
def SD (a b:Epoch):Prop:=a.Rate=b.Rate∧a.Position=b.Position∧a.Response=b.Response
theorem SD.symm {a b:Epoch} (h:SD a b):SD b a:=⟨h.1.symm,h.2.1.symm,h.2.2.symm⟩
theorem SD.refl (a:Epoch):SD a a:=⟨rfl,rfl,rfl⟩
noncomputable def sdB (a b:Epoch):Bool:=@decide (SD a b) (Classical.propDecidable _)
theorem a7F {a b:Epoch}:sdB a b=true↔SD a b:=by unfold sdB;exact @decide_eq_true_iff _ (Classical.propDecidable _)
theorem alike_ok {a b:Epoch} (h:EF a):a3N a b=some (sdB a b):=by
 obtain ⟨c,e,hc⟩:=b4n (a:=a.Response) (b:=b.Response) h.1 h.2
 unfold a3N
 rw [e]
 simp only [Option.bind_some]
 have key:∀ g:Bool,(g=true↔a.Rate=b.Rate∧a.Position=b.Position)→(if g=true then some c else some false)=some (sdB a b):=fun g hg=>by
  rw [iteT]
  congr 1
  rw [Bool.eq_iff_iff,Bool.and_eq_true,hg,hc,a7F]
  exact and_assoc
 have hg:(((a.Rate.Num == b.Rate.Num) && ((a.Rate.Den == b.Rate.Den) && true)) && ((a.Position.X == b.Position.X) && ((a.Position.Y == b.Position.Y) && ((a.Position.Z == b.Position.Z) && true))))=true↔a.Rate=b.Rate∧a.Position=b.Position:=by
  obtain ⟨a1,a2,⟨a3,a4⟩,⟨a5,a6,a7⟩,a8⟩:=a
  obtain ⟨b1,b2,⟨b3,b4⟩,⟨b5,b6,b7⟩,b8⟩:=b
  simp
 rw [key _ hg]
 rfl
theorem rdata_ok {a b:Epoch} (h:EF a):a8s a b=some (sdB a b):=by
 obtain ⟨c,e,hc⟩:=a7Y (a:=⟨b.From,b.To,a.Rate,a.Position,a.Response⟩) (b:=b) h
 unfold a8s
 rw [e]
 simp only [Option.bind_some]
 congr 1
 rw [Bool.eq_iff_iff,hc,a7F]
 cases a;cases b
 simp [SD]
def EpA (l:List Epoch) (x:Int) (e:Epoch):Prop:=e∈l∧e.From≤x∧x<e.To
def a1d (a b:List Epoch) (x:Int):Prop:=(∃ e,EpA a x e∨EpA b x e)∧¬ ∃ e f,EpA a x e∧EpA b x f∧SD e f
theorem VL.at_one {l:List Epoch} (h:VL l) {x:Int} {e f:Epoch} (he:EpA l x e) (hf:EpA l x f):e=f:=h.one he.1 hf.1 ⟨by have:=he.2;have:=hf.2;omega,by have:=he.2;have:=hf.2;omega⟩
structure DR (a b:List Epoch) (r:List Span):Prop where
 vs:VS r
 mem:∀ x,Mem r x↔a1d a b x
 len:r.length≤128
theorem b2E {a b:List Epoch} {r:List Span} (h:VS r) (hm:∀ x,Mem r x↔a1d a b x):r.length≤2 * (a.length+b.length):=by
 have hn:(r.map (·.From)).Nodup:=by
  rw [List.nodup_iff_pairwise_ne,List.pairwise_map]
  refine h.ap.imp_of_mem fun {a b} ha hb hab=>?_
  have:=h.ne a ha
  omega
 have:=b1V (m:=(a ++ b).map (·.From) ++ (a ++ b).map (·.To)) hn fun x hx=>by
  obtain ⟨s,hs,rfl⟩:=List.mem_map.1 hx
  obtain ⟨e1,e2⟩:=h.edge hs
  rw [hm] at e1 e2
  refine Classical.byContradiction fun hno=>e2 ?_
  have hno':∀ e∈a ++ b,e.From≠s.From∧e.To≠s.From:=fun e he=>⟨fun h=>hno (List.mem_append_left _ (List.mem_map.2 ⟨e,he,h⟩)),fun h=>hno (List.mem_append_right _ (List.mem_map.2 ⟨e,he,h⟩))⟩
  have key:∀ l:List Epoch,(∀ e∈l,e∈a ++ b)→∀ e,EpA l s.From e↔EpA l (s.From - 1) e:=fun l hl e=>by
   unfold EpA
   refine and_congr_right fun he=>?_
   have:=hno' e (hl e he)
   omega
  unfold a1d at e1 ⊢
  simp only [key a (fun e he=>List.mem_append_left _ he),key b (fun e he=>List.mem_append_right _ he)] at e1
  exact e1
 simp only [List.length_map,List.length_append] at this
 omega
theorem DR.uniq {a b:List Epoch} {r s:List Span} (h1:DR a b r) (h2:DR a b s):r=s:=h1.vs.uniq h2.vs fun x=>(h1.mem x).trans (h2.mem x).symm
theorem egrow {n:Int} (h0:0≤n) (h:n≤1000000):N8 n=some []:=by
 unfold N8
 have e:w64 (n - w64 (((0:Nat):Int) - (([]:List Epoch).length:Int)))=n:=by
  have e0:w64 (((0:Nat):Int) - (([]:List Epoch).length:Int))=0:=by simp only [List.length_nil];decide
  rw [e0,G6 (by omega) (by omega)];omega
 have hn:¬ n<0:=by omega
 simp only [e,hn,decide_false,Bool.false_eq_true,if_false,Option.bind]
 by_cases h1:0<n
 ·have e:D8 ([]:List Epoch) 0 ((0:Nat):Int)=some []:=by simp [D8]
  simp only [h1,decide_true,if_true,e,b2R 80 _ n h0 (by omega) (by decide)]
  simp [D8,K7,(show 0≤max n 0 by omega)]
 ·simp only [h1,decide_false,Bool.false_eq_true,if_false]
  rfl
theorem econcat (a b:List Epoch) (ha:a.length≤100000) (hb:b.length≤100000):N7 [a,b]=some (a ++ b):=by
 unfold N7
 have w1:w64 1=1:=by decide
 have w2:w64 2=2:=by decide
 have wa:w64 (a.length:Int)=a.length:=G6 (by omega) (by omega)
 have wab:w64 ((a.length:Int)+b.length)=a.length+b.length:=G6 (by omega) (by omega)
 have na:¬ ((a.length:Int)<0):=by omega
 have nab:¬ ((a.length:Int)+b.length<0):=by omega
 have e1:o5 (G9 [a,b]) (0,0)=some ((a.length:Int)+b.length):=by
  rw [I8]
  simp only [G9,ix,Option.bind]
  simp [w1,wa,na]
  rw [I8]
  simp only [G9,ix,Option.bind]
  simp [w2,wab,nab]
  rw [I8]
  simp [G9]
 rw [e1]
 simp only [Option.bind]
 rw [egrow (by omega) (by omega)]
 simp only
 have e2:o5 (H5 [a,b]) ([],0)=some (a ++ b):=by
  rw [I8]
  simp only [H5,ix,Option.bind]
  simp [w1,E5 80 [] a (by simp;omega) (by decide)]
  rw [I8]
  simp only [H5,ix,Option.bind]
  simp [w2,E5 80 a b (by omega) (by decide)]
  rw [I8]
  simp [H5]
 rw [e2]
noncomputable def shr (x y:Epoch):List Span:=if sdB x y=true then [⟨max x.From y.From,min x.To y.To⟩] else []
theorem b4p (x y:Epoch):(shr x y).length≤1:=by unfold shr;split <;> simp
theorem shr_mem {x y:Epoch} {z:Int}:Mem (shr x y) z↔SD x y∧(x.From≤z∧z<x.To)∧(y.From≤z∧z<y.To):=by
 unfold shr
 by_cases h:sdB x y=true
 ·rw [if_pos h,a0M]
  simp only [a7F.1 h,true_and]
  omega
 ·rw [if_neg h]
  exact ⟨fun g=>absurd g Mem.nil,fun g=>absurd (a7F.2 g.1) h⟩
theorem VL.ef {l:List Epoch} (h:VL l) {e:Epoch} (he:e∈l):EF e:=(h.v e he).ce.ef
theorem b4F {a b:List Epoch} (ha:VL a) (hb:VL b) (la:a.length≤32) (lb:b.length≤32):∃ r,V9 a b=some r∧DR a b r:=by
 unfold V9
 rw [econcat a b (by omega) (by omega)]
 simp only [Option.bind_some]
 rw [a3l (body:=a1r (a ++ b)) (a ++ b) (fun e=>[(⟨e.From,e.To⟩:Span)]) 1 1000 [] (fun _ _=>by simp) (by simp;omega) (fun i hi out ho=>by
   unfold a1r
   simp only
   rw [if_pos (decide_eq_true (by omega)),w9 _ _ hi]
   simp only [Option.bind_some]
   rw [E5 _ _ _ (by simp;omega) (by decide),M6 (by rw [List.length_append] at hi;omega)]
   rfl) (fun out=>by
   unfold a1r
   rw [if_neg (by simp)])]
 simp only [Option.bind_some,List.nil_append]
 have hin:∀ x∈a,∀ pre:List Span,pre.length+32≤2000→o5 (a1t b x) (pre,0)=some (pre ++ b.flatMap (shr x)):=fun x hx pre hp=>
  a3l b (shr x) 1 3000 pre (fun _ _=>b4p _ _) (by omega) (fun i hi out ho=>by
   unfold a1t a1q
   simp only
   rw [if_pos (decide_eq_true (by omega)),w9 _ _ hi]
   simp only [Option.bind_some]
   rw [alike_ok (ha.ef hx),M6 (by omega)]
   simp only [Option.bind_some]
   unfold shr
   by_cases h:sdB x b[i]=true
   ·rw [if_pos h,if_pos h,E5 _ _ _ (by simp;omega) (by decide)]
    rfl
   ·rw [if_neg h,if_neg h,List.append_nil]) (fun out=>by
   unfold a1t
   rw [if_neg (by simp)])
 have hfl:∀ x,(b.flatMap (shr x)).length≤32:=fun x=>Nat.le_trans (a3v fun _ _=>b4p _ _) (by omega)
 rw [a3l (body:=a1s a b) a (fun x=>b.flatMap (shr x)) 32 1024 [] (fun x _=>hfl x) (by simp;omega) (fun i hi out ho=>by
   unfold a1s
   simp only
   rw [if_pos (decide_eq_true (by omega)),w9 _ _ hi]
   simp only [Option.bind_some]
   rw [hin _ (List.getElem_mem hi) _ (by omega),M6 (by omega)]
   rfl) (fun out=>by
   unfold a1s
   rw [if_neg (by simp)])]
 simp only [Option.bind_some,List.nil_append]
 have l1:((a ++ b).flatMap (fun e=>[(⟨e.From,e.To⟩:Span)])).length≤64:=Nat.le_trans (a3v (m:=1) fun _ _=>by simp) (by simp;omega)
 have l2:(a.flatMap (fun x=>b.flatMap (shr x))).length≤1024:=Nat.le_trans (a3v (m:=32) fun x _=>hfl x) (by omega)
 obtain ⟨r,er,hr⟩:=b2T (a:=(a ++ b).flatMap (fun e=>[(⟨e.From,e.To⟩:Span)])) (b:=a.flatMap (fun x=>b.flatMap (shr x))) (Nat.le_trans (Nat.mul_le_mul l1 (show _≤1025 by omega)) (by decide)) (by omega) (by omega)
 rw [er]
 have hmem:∀ x,Mem r x↔a1d a b x:=fun x=>?_
 ·exact ⟨r,rfl,hr.vs,hmem,by have:=b2E hr.vs hmem;omega⟩
 rw [hr.mem]
 unfold a1d
 refine and_congr ?_ (not_congr ?_)
 ·rw [b0s]
  simp only [a0M,List.mem_append,EpA]
  constructor
  ·rintro ⟨e,h | h,g⟩
   ·exact ⟨e,.inl ⟨h,g⟩⟩
   ·exact ⟨e,.inr ⟨h,g⟩⟩
  ·rintro ⟨e,⟨h,g⟩ | ⟨h,g⟩⟩
   ·exact ⟨e,.inl h,g⟩
   ·exact ⟨e,.inr h,g⟩
 ·rw [b0s]
  simp only [b0s,shr_mem,EpA]
  constructor
  ·rintro ⟨e,he,f,hf,h1,h2,h3⟩
   exact ⟨e,f,⟨he,h2⟩,⟨hf,h3⟩,h1⟩
  ·rintro ⟨e,f,⟨he,h2⟩,⟨hf,h3⟩,h1⟩
   exact ⟨e,he,f,hf,h1,h2,h3⟩
def OneD (a b:List Epoch) (x:Int):Prop:=∃ e,EpA a x e∧¬ ∃ f,EpA b x f∧SD e f
theorem diff_one {a b:List Epoch} (ha:VL a) (hb:VL b) (x:Int):a1d a b x↔OneD a b x∨OneD b a x:=by
 constructor
 ·rintro ⟨⟨e,h | h⟩,hn⟩
  ·exact .inl ⟨e,h,fun ⟨f,hf,hs⟩=>hn ⟨e,f,h,hf,hs⟩⟩
  ·exact .inr ⟨e,h,fun ⟨f,hf,hs⟩=>hn ⟨f,e,hf,h,hs.symm⟩⟩
 ·rintro (⟨e,h,hn⟩ | ⟨e,h,hn⟩)
  ·exact ⟨⟨e,.inl h⟩,fun ⟨e',f,h1,h2,h3⟩=>hn ⟨f,h2,by rw [ha.at_one h h1];exact h3⟩⟩
  ·exact ⟨⟨e,.inr h⟩,fun ⟨f,e',h1,h2,h3⟩=>hn ⟨f,h1,by rw [hb.at_one h h2];exact h3.symm⟩⟩
theorem b0v {a b:Channel} (ha:VL a.Epochs) (hb:VL b.Epochs) (la:a.Epochs.length≤32) (lb:b.Epochs.length≤32):∃ r,a2u a b=some r∧r.length≤1056∧∀ x,Mem r x↔OneD a.Epochs b.Epochs x:=by
 unfold a2u
 have hin:∀ i (hi:i<a.Epochs.length) (o:List Span),∃ r,o5 (a1C a b (o,(i:Int))) ([⟨a.Epochs[i].From,a.Epochs[i].To⟩],0)=some r∧r.length≤33∧∀ x,Mem r x↔(a.Epochs[i].From≤x∧x<a.Epochs[i].To)∧¬ ∃ f,EpA b.Epochs x f∧SD a.Epochs[i] f:=fun i hi o=>by
  have hef:=ha.ef (List.getElem_mem hi)
  have hv:=(ha.v _ (List.getElem_mem hi)).ft
  refine Y5 (body:=a1C a b (o,(i:Int))) (fun q k=>(q,k)) b.Epochs.length (fun k q=>q.length≤k+1∧∀ x,Mem q x↔(a.Epochs[i].From≤x∧x<a.Epochs[i].To)∧¬ ∃ f,EpA (b.Epochs.take k) x f∧SD a.Epochs[i] f) _ (fun k hk q ⟨hq1,hq2⟩=>?_) (fun q ⟨hq1,hq2⟩=>?_) _ ⟨by simp,fun x=>?_⟩
  ·rw [a0M]
   exact ⟨fun g=>⟨g,fun ⟨f,hf,_⟩=>by have:=hf.1;simp at this⟩,fun g=>g.1⟩
  ·unfold a1C a4K
   simp only
   rw [if_pos (decide_eq_true (by omega)),w9 _ _ hi,w9 _ _ hk]
   simp only [Option.bind_some]
   rw [rdata_ok hef,M6 (by omega)]
   simp only [Option.bind_some]
   have hx:∀ x f,EpA (b.Epochs.take (k+1)) x f↔EpA (b.Epochs.take k) x f∨(f=b.Epochs[k]∧b.Epochs[k].From≤x∧x<b.Epochs[k].To):=fun x f=>by
    unfold EpA
    rw [C9 hk,List.mem_append,List.mem_singleton]
    constructor
    ·rintro ⟨h | rfl,g⟩
     ·exact .inl ⟨h,g⟩
     ·exact .inr ⟨rfl,g⟩
    ·rintro (⟨h,g⟩ | ⟨rfl,g⟩)
     ·exact ⟨.inl h,g⟩
     ·exact ⟨.inr rfl,g⟩
   by_cases h:sdB a.Epochs[i] b.Epochs[k]=true
   ·rw [if_pos h]
    obtain ⟨r,er,hr⟩:=b2Z (a:=q) (b:=[(⟨b.Epochs[k].From,b.Epochs[k].To⟩:Span)]) (by omega) (by simp)
    rw [er]
    refine ⟨r,rfl,by have:=hr.len2;simp at this;omega,fun x=>?_⟩
    rw [hr.mem,hq2,a0M]
    constructor
    ·rintro ⟨⟨g1,g2⟩,g3⟩
     refine ⟨g1,fun ⟨f,hf,hs⟩=>?_⟩
     rcases (hx x f).1 hf with g | ⟨_,g⟩
     ·exact g2 ⟨f,g,hs⟩
     ·exact g3 g
    ·rintro ⟨g1,g2⟩
     exact ⟨⟨g1,fun ⟨f,hf,hs⟩=>g2 ⟨f,(hx x f).2 (.inl hf),hs⟩⟩,fun g=>g2 ⟨_,(hx x _).2 (.inr ⟨rfl,g⟩),a7F.1 h⟩⟩
   ·rw [if_neg h]
    refine ⟨q,rfl,by omega,fun x=>?_⟩
    rw [hq2]
    refine and_congr Iff.rfl (not_congr ⟨fun ⟨f,hf,hs⟩=>⟨f,(hx x f).2 (.inl hf),hs⟩,fun ⟨f,hf,hs⟩=>?_⟩)
    rcases (hx x f).1 hf with g | ⟨e,_⟩
    ·exact ⟨f,g,hs⟩
    ·subst e;exact absurd (a7F.2 hs) h
  ·unfold a1C
   simp only
   rw [if_neg (by simp)]
   rw [List.take_length] at hq2
   exact ⟨q,rfl,by omega,hq2⟩
 obtain ⟨r,er,hr1,hr2⟩:=Y5 (body:=a2W a b) (fun q k=>(q,k)) a.Epochs.length (fun i q=>q.length≤i * 33∧∀ x,Mem q x↔∃ e,EpA (a.Epochs.take i) x e∧¬ ∃ f,EpA b.Epochs x f∧SD e f) (fun r=>r.length≤1056∧∀ x,Mem r x↔OneD a.Epochs b.Epochs x) (fun i hi q ⟨hq1,hq2⟩=>by
  obtain ⟨w,ew,hw1,hw2⟩:=hin i hi q
  unfold a2W
  simp only
  rw [if_pos (decide_eq_true (by omega)),w9 _ _ hi]
  simp only [Option.bind_some]
  rw [ew]
  simp only [Option.bind_some]
  rw [E5 _ _ _ (by omega) (by decide),M6 (by omega)]
  refine ⟨_,rfl,by rw [List.length_append];omega,fun x=>?_⟩
  rw [mem_append,hq2,hw2]
  constructor
  ·rintro (⟨e,he,h⟩ | ⟨h1,h2⟩)
   ·exact ⟨e,⟨by rw [C9 hi];exact List.mem_append_left _ he.1,he.2⟩,h⟩
   ·exact ⟨_,⟨by rw [C9 hi];exact List.mem_append_right _ (List.mem_singleton.2 rfl),h1⟩,h2⟩
  ·rintro ⟨e,he,h⟩
   have:=he.1
   rw [C9 hi,List.mem_append,List.mem_singleton] at this
   rcases this with g | rfl
   ·exact .inl ⟨e,⟨g,he.2⟩,h⟩
   ·exact .inr ⟨he.2,h⟩) (fun q ⟨hq1,hq2⟩=>by
  unfold a2W
  simp only
  rw [if_neg (by simp)]
  rw [List.take_length] at hq2
  exact ⟨q,rfl,by omega,hq2⟩) [] ⟨by simp,fun x=>⟨fun h=>absurd h Mem.nil,fun ⟨e,he,_⟩=>by have:=he.1;simp at this⟩⟩
 rw [er]
 exact ⟨r,rfl,hr1,hr2⟩
noncomputable def dif (a b:List Epoch):List Span:=(V9 a b).getD []
theorem dif_ok {a b:List Epoch} (ha:VL a) (hb:VL b) (la:a.length≤32) (lb:b.length≤32):V9 a b=some (dif a b)∧DR a b (dif a b):=by
 obtain ⟨r,e,h⟩:=b4F ha hb la lb
 unfold dif
 rw [e]
 exact ⟨rfl,h⟩
theorem rdif_ok {a b:Channel} (ha:VL a.Epochs) (hb:VL b.Epochs) (la:a.Epochs.length≤32) (lb:b.Epochs.length≤32):∃ p q,a2u a b=some p∧a2u b a=some q∧a3n p q=some (dif a.Epochs b.Epochs):=by
 obtain ⟨p,e1,l1,m1⟩:=b0v ha hb la lb
 obtain ⟨q,e2,l2,m2⟩:=b0v hb ha lb la
 obtain ⟨r,e3,h⟩:=a9O (a:=p) (b:=q) (by omega)
 refine ⟨p,q,e1,e2,?_⟩
 rw [e3]
 congr 1
 have hmem:∀ x,Mem r x↔a1d a.Epochs b.Epochs x:=fun x=>by rw [h.mem,mem_append,m1,m2,diff_one ha hb]
 exact DR.uniq (a:=a.Epochs) (b:=b.Epochs) ⟨h.vs,hmem,by have:=b2E h.vs hmem;omega⟩ (dif_ok ha hb la lb).2
end Go.Proofs.YteanekphncdhiaaGreat.Sh
namespace Go.Proofs.YteanekphncdhiaaGreat.Sh
open Go
set_option linter.unusedVariables false
set_option linter.unusedSimpArgs false
def eqSrc (x y:SourceID):Bool:=((x.Network == y.Network) && ((x.Station == y.Station) && ((x.Location == y.Location) && ((x.Channel == y.Channel) && true))))
theorem b2A (l:List SourceID):O0 l=a7x b1z (fun x y=>some (eqSrc x y)) l:=rfl
theorem b0L {l:List SourceID} (hl:l.length<1000000):a5u l=some (a7r F3 l):=by
 obtain ⟨m,e1,e2⟩:=b2m R6 (fun _ _=>a2n) (f:=V4) (g:=fun x y=>some (eqSrc x y)) (eq:=eqSrc) b1z (l:=l) (P:=fun _=>True) (fun _ _=>trivial) (fun x y _ _=>a3R x y) (fun _ _ _ _=>rfl) (fun x y _ _=>b2o) hl
 unfold a5u J4 N9
 rw [E5 _ _ _ (by simp;omega) (by decide)]
 simp only [Option.bind_some,List.nil_append,b2A]
 rw [e1]
 simp only [Option.bind_some]
 rw [e2]
 rfl
theorem b3z {α:Type} {c:α→α→Int} (hc:Cmp c) (he:∀ x y,c x y=0→x=y) {out:List α} {x:α} {k:Nat} (hp:out.Pairwise (fun a b=>c a b<0)) (hk:k≤out.length)
  (h1:∀ j (h:j<out.length),j<k→c out[j] x<0) (h2:∀ h:k<out.length,0≤c out[k] x):(∀ h:k<out.length,(out[k]=x→a6V c x out=out))∧((∀ h:k<out.length,out[k]≠x)→a6V c x out=out.take k ++ x :: out.drop k):=by
 refine ⟨fun h e=>?_,fun hne=>?_⟩
 ·refine a3u hc (a7A hc he hp) hp fun z=>?_
  rw [a4Z he]
  refine ⟨fun h=>h.elim (fun h=>?_) id,fun h=>.inr h⟩
  rw [h,← e];exact List.getElem_mem _
 ·have hpp:=List.pairwise_iff_getElem.1 hp
  refine (insC_at hc he hp hk (fun j hj hkj=>?_) ?_).2 ?_
  ·have hkl:k<out.length:=by omega
   have g1:0<c out[k] x:=by
    have:=h2 hkl
    rcases Int.lt_or_eq_of_le this with g | g
    ·exact g
    ·exact absurd (he _ _ g.symm) (hne hkl)
   by_cases e:j=k
   ·subst e;exact g1
   ·have g2:=hpp k j hkl hj (by omega)
    have a1:=hc.anti (out[k]) x
    have a2:=hc.anti (out[j]) x
    have:=hc.trans x out[k] out[j] (by omega) g2
    omega
  ·by_cases e:k=0
   ·exact .inl e
   ·exact .inr ⟨by omega,by omega,by have:=h1 (k - 1) (by omega) (by omega);omega⟩
  ·by_cases e:k=0
   ·exact .inl e
   ·refine .inr ⟨by omega,by omega,fun e'=>?_⟩
    have:=h1 (k - 1) (by omega) (by omega)
    rw [e'] at this
    have:=hc.refl x
    omega
theorem rSort_ok {l:List SourceID} (hl:l.length≤90000):a8o l=some (a7r F3 l):=by
 unfold a8o
 obtain ⟨r,er,hr⟩:=Y5 (body:=a4m l) (fun a i=>(a,i)) l.length (fun i a=>a=a7r F3 (l.take i)) (fun r=>r=a7r F3 l) (fun i hi a ha=>by
  have hal:a.length≤i:=by rw [ha];exact Nat.le_trans (b0O _ _) (by rw [List.length_take];omega)
  have hpw:a.Pairwise (fun a b=>F3 a b<0):=by rw [ha];exact a7H R6 (fun _ _=>a2n) _
  have hnext:a7r F3 (l.take (i+1))=a6V F3 l[i] a:=by rw [C9 hi,b4Y R6 (fun _ _=>a2n),ha]
  obtain ⟨w,ew,k,hwk,hk,h1,h2⟩:=R3 (b1:=a5D l (a,(i:Int))) (fun m s=>∃ k:Nat,s=(k:Int)∧k≤a.length∧m+k=a.length∧∀ j (h:j<a.length),j<k→F3 a[j] l[i]<0) (fun w=>∃ k:Nat,w=(k:Int)∧k≤a.length∧(∀ j (h:j<a.length),j<k→F3 a[j] l[i]<0)∧∀ h:k<a.length,0≤F3 a[k] l[i]) (fun m s ⟨k,es,hk,hm,hj⟩=>by
   subst es
   unfold a5D
   simp only
   by_cases hkl:k<a.length
   ·rw [if_pos (decide_eq_true (by omega)),w9 _ _ hkl,w9 _ _ hi]
    simp only [Option.bind_some]
    rw [a8n]
    simp only [Option.bind_some]
    by_cases hc:F3 a[k] l[i]<0
    ·rw [if_pos (decide_eq_true hc),M6 (by omega)]
     refine .inl ⟨_,m - 1,rfl,⟨k+1,rfl,by omega,by omega,fun j hjl hjk=>?_⟩,by omega⟩
     by_cases e:j=k
     ·subst e;exact hc
     ·exact hj j hjl (by omega)
    ·rw [if_neg (by simpa using hc)]
     exact .inr ⟨_,rfl,k,rfl,hk,hj,fun _=>by omega⟩
   ·rw [if_neg (by simp;omega)]
    exact .inr ⟨_,rfl,k,rfl,hk,hj,fun h=>absurd h hkl⟩) a.length 0 ⟨0,rfl,by omega,by omega,fun j _ h=>absurd h (by omega)⟩
  obtain ⟨q1,q2⟩:=b3z R6 (fun _ _=>a2n) hpw hk h1 h2
  unfold a4m a5C
  simp only
  rw [if_pos (decide_eq_true (by omega)),ew]
  simp only [Option.bind_some]
  rw [hwk,M6 (show i≤1000000000000000000 by omega),w9 _ _ hi]
  obtain ⟨i1,i2,q,i3,i4,i5⟩:=b0p (s:=a) (x:=l[i]) hk (by omega)
  by_cases hkl:k<a.length
  ·rw [if_pos (decide_eq_true (by omega)),w9 _ _ hkl]
   simp only [Option.bind_some,a7G]
   by_cases hq:a[k]=l[i]
   ·rw [if_pos (decide_eq_true hq)]
    exact ⟨a,rfl,by rw [hnext,q1 hkl hq]⟩
   ·rw [if_neg (by simpa using hq)]
    rw [E5 _ _ _ (by simp;omega) (by decide)]
    simp only [Option.bind_some]
    rw [M6 (by omega),i1,i2]
    simp only [Option.bind_some]
    rw [← i3,w9 _ _ i4]
    simp only [Option.bind_some]
    rw [a2w _ _ _ (by omega) (by omega),Int.toNat_natCast,i5,← q2 (fun _=>hq)]
    exact ⟨_,rfl,hnext.symm⟩
  ·rw [if_neg (by simp;omega)]
   simp only [Option.bind_some,Bool.false_eq_true,if_false]
   rw [E5 _ _ _ (by simp;omega) (by decide)]
   simp only [Option.bind_some]
   rw [M6 (by omega),i1,i2]
   simp only [Option.bind_some]
   rw [← i3,w9 _ _ i4]
   simp only [Option.bind_some]
   rw [a2w _ _ _ (by omega) (by omega),Int.toNat_natCast,i5,← q2 (fun h=>absurd h hkl)]
   exact ⟨_,rfl,hnext.symm⟩) (fun a ha=>by
  unfold a4m
  simp only
  rw [if_neg (by simp)]
  rw [List.take_length] at ha
  exact ⟨a,rfl,ha⟩) [] rfl
 rw [er,hr]
 rfl
theorem cgrow {n:Int} (h0:0≤n) (h:n≤1000000):K3 n=some []:=by
 unfold K3
 have e:w64 (n - w64 (((0:Nat):Int) - (([]:List Channel).length:Int)))=n:=by
  have e0:w64 (((0:Nat):Int) - (([]:List Channel).length:Int))=0:=by simp only [List.length_nil];decide
  rw [e0,G6 (by omega) (by omega)];omega
 have hn:¬ n<0:=by omega
 simp only [e,hn,decide_false,Bool.false_eq_true,if_false,Option.bind]
 by_cases h1:0<n
 ·have e:D8 ([]:List Channel) 0 ((0:Nat):Int)=some []:=by simp [D8]
  simp only [h1,decide_true,if_true,e,b2R 88 _ n h0 (by omega) (by decide)]
  simp [D8,I5,(show 0≤max n 0 by omega)]
 ·simp only [h1,decide_false,Bool.false_eq_true,if_false]
  rfl
theorem cconcat (a b:List Channel) (ha:a.length≤100000) (hb:b.length≤100000):J8 [a,b]=some (a ++ b):=by
 unfold J8
 have w1:w64 1=1:=by decide
 have w2:w64 2=2:=by decide
 have wa:w64 (a.length:Int)=a.length:=G6 (by omega) (by omega)
 have wab:w64 ((a.length:Int)+b.length)=a.length+b.length:=G6 (by omega) (by omega)
 have na:¬ ((a.length:Int)<0):=by omega
 have nab:¬ ((a.length:Int)+b.length<0):=by omega
 have e1:o5 (F8 [a,b]) (0,0)=some ((a.length:Int)+b.length):=by
  rw [I8]
  simp only [F8,ix,Option.bind]
  simp [w1,wa,na]
  rw [I8]
  simp only [F8,ix,Option.bind]
  simp [w2,wab,nab]
  rw [I8]
  simp [F8]
 rw [e1]
 simp only [Option.bind]
 rw [cgrow (by omega) (by omega)]
 simp only
 have e2:o5 (F9 [a,b]) ([],0)=some (a ++ b):=by
  rw [I8]
  simp only [F9,ix,Option.bind]
  simp [w1,E5 88 [] a (by simp;omega) (by decide)]
  rw [I8]
  simp only [F9,ix,Option.bind]
  simp [w2,E5 88 a b (by omega) (by decide)]
  rw [I8]
  simp [F9]
 rw [e2]
theorem VI.ep32 {inv:Inventory} (h:VI inv) (s:SourceID):(epL s inv.Channels).length≤32:=by
 rcases a3k s inv.Channels with ⟨h1,_⟩ | ⟨d,hd,_,h1⟩
 ·rw [h1];simp
 ·rw [h1];exact h.m d hd
noncomputable def a9S (a b:Inventory) (s:SourceID):List Span:=dif (epL s a.Channels) (epL s b.Channels)
noncomputable def a6T (a b:Inventory) (s:SourceID):List Affected:=if (a9S a b s).isEmpty=true then [] else [⟨s,a9S a b s⟩]
def a0Z (a b:Inventory):List SourceID:=a7r F3 ((a.Channels ++ b.Channels).map (·.Source))
noncomputable def a0j (a b:Inventory):List Affected:=(a0Z a b).flatMap (a6T a b)
noncomputable def affN (a b:Inventory):List Affected:=@ite _ (VI a∧VI b) (Classical.propDecidable _) (a0j a b) []
theorem a6S {a b:Inventory} (h:VI a∧VI b):affN a b=a0j a b:=@if_pos _ (Classical.propDecidable _) h _ _ _
theorem affN_neg {a b:Inventory} (h:¬ (VI a∧VI b)):affN a b=[]:=@if_neg _ (Classical.propDecidable _) h _ _ _
theorem a9l (a b:Inventory) (s:SourceID):(a6T a b s).length≤1:=by unfold a6T;split <;> simp
theorem b0a {a b:Inventory} (ha:VI a) (hb:VI b) (s:SourceID):V9 (epL s a.Channels) (epL s b.Channels)=some (a9S a b s)∧DR (epL s a.Channels) (epL s b.Channels) (a9S a b s):=
 dif_ok (ha.toSI.vl s) (hb.toSI.vl s) (ha.ep32 s) (hb.ep32 s)
theorem isE {α:Type} {l:List α}:decide (0<(l.length:Int))=!l.isEmpty:=by cases l <;> simp
theorem b0N (a b:Inventory):(a0Z a b).length≤a.Channels.length+b.Channels.length:=by
 have:=b0O F3 ((a.Channels ++ b.Channels).map (·.Source))
 simpa [a0Z] using this
theorem aff_loop {a b:Inventory} (ha:VI a) (hb:VI b):o5 (a0t a b (a0Z a b)) (([]:List Affected),0)=some (a0j a b):=by
 have hn:=b0N a b
 have:=ha.n
 have:=hb.n
 rw [a3l (a0Z a b) (a6T a b) 1 1000 [] (fun _ _=>a9l a b _) (by simp;omega) (fun i hi out ho=>?_) (fun out=>?_)]
 ·rfl
 ·unfold a0t a0r
  simp only
  rw [if_pos (decide_eq_true (by omega)),w9 _ _ hi]
  simp only [Option.bind_some]
  rw [find_ok ha.ci,find_ok hb.ci]
  simp only [Option.bind_some,a4A]
  rw [(b0a ha hb _).1,M6 (by omega)]
  simp only [Option.bind_some,isE]
  unfold a6T
  cases (a9S a b (a0Z a b)[i]).isEmpty
  ·simp only [Bool.not_false,if_true,Bool.false_eq_true,if_false]
   rw [E5 _ _ _ (by simp;omega) (by decide)]
   rfl
  ·simp
 ·unfold a0t
  rw [if_neg (by simp)]
theorem b4R {a b:Inventory} (ha:VI a) (hb:VI b):o5 (a1V a b (a0Z a b)) (([]:List Affected),0)=some (a0j a b):=by
 have hn:=b0N a b
 have:=ha.n
 have:=hb.n
 rw [a3l (a0Z a b) (a6T a b) 1 1000 [] (fun _ _=>a9l a b _) (by simp;omega) (fun i hi out ho=>?_) (fun out=>?_)]
 ·rfl
 ·unfold a1V a3H
  simp only
  rw [if_pos (decide_eq_true (by omega)),w9 _ _ hi]
  simp only [Option.bind_some]
  rw [b2W ha.ci,b2W hb.ci]
  simp only [Option.bind_some]
  obtain ⟨p,q,e1,e2,e3⟩:=rdif_ok (a:=(a7V (a0Z a b)[i] a.Channels).1) (b:=(a7V (a0Z a b)[i] b.Channels).1) (by rw [a4A];exact ha.toSI.vl _) (by rw [a4A];exact hb.toSI.vl _) (by rw [a4A];exact ha.ep32 _) (by rw [a4A];exact hb.ep32 _)
  rw [e1,e2]
  simp only [Option.bind_some]
  rw [a4A,a4A] at e3
  rw [e3,M6 (by omega)]
  simp only [Option.bind_some,isE]
  unfold a6T a9S
  cases (dif (epL (a0Z a b)[i] a.Channels) (epL (a0Z a b)[i] b.Channels)).isEmpty
  ·simp only [Bool.not_false,if_true,Bool.false_eq_true,if_false]
   rw [E5 _ _ _ (by simp;omega) (by decide)]
   rfl
  ·simp
 ·unfold a1V
  rw [if_neg (by simp)]
theorem a9K {a b:Inventory} (ha:FI a) (hb:FI b):a0q a b=some (affN a b)∧a7d a b=some (affN a b):=by
 obtain ⟨p,e1,h1⟩:=a7t ha
 obtain ⟨q,e2,h2⟩:=a7t hb
 obtain ⟨p',e3,h3⟩:=a5i ha
 obtain ⟨q',e4,h4⟩:=a5i hb
 have hp:p'=p:=by rw [Bool.eq_iff_iff,h1,h3]
 have hq:q'=q:=by rw [Bool.eq_iff_iff,h2,h4]
 subst hp hq
 unfold a0q a7d
 rw [e1,e2,e3,e4]
 simp only [Option.bind_some]
 by_cases hv:VI a∧VI b
 ·rw [h1.2 hv.1,h2.2 hv.2,a6S hv]
  have:=hv.1.n
  have:=hv.2.n
  simp only [Bool.not_true,Bool.false_eq_true,if_false,Option.bind_some]
  rw [cconcat _ _ (by omega) (by omega)]
  simp only [Option.bind_some]
  have hfm:∀ l:List Channel,l.flatMap (fun c=>[c.Source])=l.map (·.Source):=fun l=>by induction l <;> simp_all
  constructor
  ·rw [a3l (body:=a0s (a.Channels ++ b.Channels)) (a.Channels ++ b.Channels) (fun c=>[c.Source]) 1 1000 [] (fun _ _=>by simp) (by simp;omega) (fun i hi out ho=>by
     unfold a0s
     simp only
     rw [if_pos (decide_eq_true (by omega)),w9 _ _ hi]
     simp only [Option.bind_some]
     rw [E5 _ _ _ (by simp;omega) (by decide),M6 (by rw [List.length_append] at hi;omega)]
     rfl) (fun out=>by
     unfold a0s
     rw [if_neg (by simp)]),hfm]
   simp only [Option.bind_some,List.nil_append]
   rw [b0L (by simp;omega)]
   simp only [Option.bind_some]
   rw [show a7r F3 ((a.Channels ++ b.Channels).map (·.Source))=a0Z a b from rfl,aff_loop hv.1 hv.2]
   rfl
  ·rw [a3l (body:=a1T a) a.Channels (fun c=>[c.Source]) 1 1000 [] (fun _ _=>by simp) (by simp;omega) (fun i hi out ho=>by
     unfold a1T
     simp only
     rw [if_pos (decide_eq_true (by omega)),w9 _ _ hi]
     simp only [Option.bind_some]
     rw [E5 _ _ _ (by simp;omega) (by decide),M6 (by omega)]
     rfl) (fun out=>by
     unfold a1T
     rw [if_neg (by simp)]),hfm]
   simp only [Option.bind_some,List.nil_append]
   rw [a3l (body:=a1U b) b.Channels (fun c=>[c.Source]) 1 1000 (a.Channels.map (·.Source)) (fun _ _=>by simp) (by simp;omega) (fun i hi out ho=>by
     unfold a1U
     simp only
     rw [if_pos (decide_eq_true (by omega)),w9 _ _ hi]
     simp only [Option.bind_some]
     rw [E5 _ _ _ (by simp;omega) (by decide),M6 (by omega)]
     rfl) (fun out=>by
     unfold a1U
     rw [if_neg (by simp)]),hfm,← List.map_append]
   simp only [Option.bind_some,List.nil_append]
   rw [rSort_ok (by simp;omega)]
   simp only [Option.bind_some]
   rw [show a7r F3 ((a.Channels ++ b.Channels).map (·.Source))=a0Z a b from rfl,b4R hv.1 hv.2]
   rfl
 ·rw [affN_neg hv]
  by_cases h:VI a
  ·have:¬ VI b:=fun h'=>hv ⟨h,h'⟩
   have h2':q'=false:=by rw [← Bool.not_eq_true,h2];exact this
   rw [h1.2 h,h2']
   exact ⟨rfl,rfl⟩
  ·have h1':p'=false:=by rw [← Bool.not_eq_true,h1];exact h
   rw [h1']
   exact ⟨rfl,rfl⟩
structure AffP (a b:Inventory) (l:List Affected):Prop where
 asc:l.Pairwise (fun f g=>F3 f.Source g.Source<0)
 vs:∀ f∈l,VS f.Spans∧f.Spans≠[]∧f.Spans.length≤5000
 mem:∀ s x,(∃ f∈l,f.Source=s∧Mem f.Spans x)↔a1d (epL s a.Channels) (epL s b.Channels) x
theorem a7B {a b:Inventory} {s:SourceID} {f:Affected}:f∈a6T a b s↔f=⟨s,a9S a b s⟩∧a9S a b s≠[]:=by
 unfold a6T
 cases h:a9S a b s <;> simp
theorem a6Y {a b:Inventory} {f:Affected}:f∈a0j a b↔f.Source∈a0Z a b∧f.Spans=a9S a b f.Source∧f.Spans≠[]:=by
 unfold a0j
 rw [List.mem_flatMap]
 constructor
 ·rintro ⟨s,hs,h⟩
  obtain ⟨rfl,h2⟩:=a7B.1 h
  exact ⟨hs,rfl,h2⟩
 ·rintro ⟨h1,h2,h3⟩
  refine ⟨_,h1,a7B.2 ⟨?_,by rw [← h2];exact h3⟩⟩
  rw [← h2]
theorem epL_srcs {a b:Inventory} {s:SourceID} {e:Epoch} (h:e∈epL s a.Channels∨e∈epL s b.Channels):s∈a0Z a b:=by
 unfold a0Z
 rw [a5N (fun _ _=>a2n),List.mem_map]
 have key:∀ l:List Channel,e∈epL s l→∃ c∈l,c.Source=s:=fun l hl=>by
  rcases a3k s l with ⟨h1,_⟩ | ⟨c,hc,h1,_⟩
  ·rw [h1] at hl;cases hl
  ·exact ⟨c,hc,h1⟩
 rcases h with h | h
 ·obtain ⟨c,hc,e⟩:=key _ h;exact ⟨c,List.mem_append_left _ hc,e⟩
 ·obtain ⟨c,hc,e⟩:=key _ h;exact ⟨c,List.mem_append_right _ hc,e⟩
theorem a5Y {a b:Inventory} (ha:VI a) (hb:VI b):AffP a b (a0j a b):=by
 refine ⟨?_,fun f hf=>?_,fun s x=>?_⟩
 ·have hp:(a0Z a b).Pairwise (fun s t=>F3 s t<0):=a7H R6 (fun _ _=>a2n) _
  unfold a0j
  rw [List.pairwise_flatMap]
  refine ⟨fun s _=>?_,hp.imp fun h f hf g hg=>?_⟩
  ·unfold a6T;split <;> simp
  ·rw [(a7B.1 hf).1,(a7B.1 hg).1];exact h
 ·obtain ⟨h1,h2,h3⟩:=a6Y.1 hf
  have:=(b0a ha hb f.Source).2
  rw [h2] at h3 ⊢
  exact ⟨this.vs,h3,Nat.le_trans this.len (by decide)⟩
 ·have hd:=(b0a ha hb s).2
  rw [← hd.mem]
  constructor
  ·rintro ⟨f,hf,rfl,hm⟩
   rw [← (a6Y.1 hf).2.1];exact hm
  ·intro hm
   have hne:a9S a b s≠[]:=fun e=>by rw [e] at hm;exact Mem.nil hm
   obtain ⟨e,he⟩:=((hd.mem x).1 hm).1
   exact ⟨⟨s,a9S a b s⟩,a6Y.2 ⟨epL_srcs (he.elim (fun h=>.inl h.1) (fun h=>.inr h.1)),rfl,hne⟩,rfl,hm⟩
theorem b0e {l:List Span} (h:VS l) (hn:l≠[]):∃ x,Mem l x:=by
 cases l with
 | nil=>exact absurd rfl hn
 | cons s l=>exact ⟨s.From,s,List.mem_cons_self,Int.le_refl _,h.ne s List.mem_cons_self⟩
theorem AffP.src {a b:Inventory} {l:List Affected} (h:AffP a b l) {f g:Affected} (hf:f∈l) (hg:g∈l) (hs:f.Source=g.Source):f=g:=by
 by_cases e:f=g
 ·exact e
 ·have:=b1B (R:=fun f g:Affected=>F3 f.Source g.Source<0∨F3 g.Source f.Source<0) (fun _ _ h=>h.symm) (h.asc.imp fun h=>.inl h) f hf g hg e
  rw [hs,a3j] at this
  omega
theorem AffP.at {a b:Inventory} {l:List Affected} (h:AffP a b l) {f:Affected} (hf:f∈l) (x:Int):Mem f.Spans x↔a1d (epL f.Source a.Channels) (epL f.Source b.Channels) x:=by
 rw [← h.mem f.Source x]
 exact ⟨fun hm=>⟨f,hf,rfl,hm⟩,fun ⟨g,hg,hs,hm⟩=>by rw [h.src hf hg hs.symm];exact hm⟩
theorem AffP.sub {a b a' b':Inventory} {l m:List Affected} (h:AffP a b l) (h':AffP a' b' m) {f:Affected} (hf:f∈l) (hd:∀ x,a1d (epL f.Source a.Channels) (epL f.Source b.Channels) x↔a1d (epL f.Source a'.Channels) (epL f.Source b'.Channels) x):f∈m:=by
 obtain ⟨h1,h2,h3⟩:=h.vs f hf
 obtain ⟨x,hx⟩:=b0e h1 h2
 obtain ⟨g,hg,hs,hm⟩:=(h'.mem f.Source x).2 ((hd _).1 ((h.at hf x).1 hx))
 have:f=g:=by
  have e:f.Spans=g.Spans:=h1.uniq (h'.vs g hg).1 fun y=>by rw [h.at hf,h'.at hg,hs];exact hd _
  cases f;cases g;simp_all
 rw [this];exact hg
theorem AffP.uniq {a b a' b':Inventory} {l m:List Affected} (h:AffP a b l) (h':AffP a' b' m) (hd:∀ s x,a1d (epL s a.Channels) (epL s b.Channels) x↔a1d (epL s a'.Channels) (epL s b'.Channels) x):l=m:=
 a3u (c:=fun f g:Affected=>F3 f.Source g.Source) (R6.by (fun f:Affected=>f.Source)) h.asc h'.asc fun f=>⟨fun hf=>h.sub h' hf (hd _),fun hf=>h'.sub h hf fun x=>(hd _ x).symm⟩
end Go.Proofs.YteanekphncdhiaaGreat.Sh
namespace Go.Proofs.YteanekphncdhiaaGreat.Sh
open Go
set_option linter.unusedVariables false
set_option linter.unusedSimpArgs false
structure DOK (d:Dice):Prop where
 a0:0≤d.At
 a1:d.At≤d.L.length
 len:d.L.length≤500
theorem DOK.roll {l:List Int} (h:l.length≤500):DOK ⟨l,0⟩:=⟨Int.le_refl _,by simp,h⟩
theorem b3A (l:List Int):a6m l=some (decide (l.length≤500)):=by
 simp only [a6m,Option.some.injEq,decide_eq_decide];omega
theorem I7 {d:Dice} (hd:DOK d) {n:Int} (h1:1≤n) (h2:n≤9223372036854775807):∃ x d',u6 d n=some (x,d')∧0≤x∧x<n∧DOK d':=by
 obtain ⟨a0,a1,len⟩:=hd
 unfold u6
 by_cases h:(d.L.length:Int)≤d.At
 ·refine ⟨0,d,?_,Int.le_refl _,by omega,a0,a1,len⟩
  simp [h]
 ·have hn:¬ n<1:=by omega
  have hnext:DOK ⟨d.L,w64 (d.At+1)⟩:=by
   rw [G6 (by omega) (by omega)];exact ⟨by simp only;omega,by simp only;omega,len⟩
  rw [if_neg (by simp [h,hn]),b2N d.L d.At a0 (by omega)]
  simp only [Option.bind]
  rw [b4m _ _ (by omega)]
  simp only [a1S]
  generalize hx:(d.L[d.At.toNat]'(by omega))=x
  have hb:-n<x.tmod n∧x.tmod n<n:=⟨Int.lt_tmod_of_pos x (by omega),Int.tmod_lt_of_pos x (by omega)⟩
  by_cases hneg:x.tmod n<0
  ·simp only [hneg,decide_true,if_true,Option.bind]
   refine ⟨_,_,rfl,?_,?_,hnext⟩ <;> rw [G6 (by omega) (by omega)] <;> omega
  ·simp only [hneg,decide_false,Bool.false_eq_true,if_false]
   exact ⟨_,_,rfl,by omega,by omega,hnext⟩
theorem a2q {d:Dice} (hd:DOK d) {l:List Int} (h1:1≤l.length) (h2:l.length≤1000):∃ x d',L9 d l=some (x,d')∧x∈l∧DOK d':=by
 obtain ⟨x,d',e,x0,x1,hd'⟩:=I7 hd (n:=(l.length:Int)) (by omega) (by omega)
 unfold L9
 rw [e]
 simp only [Option.bind]
 rw [b2N l x x0 x1]
 exact ⟨_,_,rfl,List.getElem_mem _,hd'⟩
end Go.Proofs.YteanekphncdhiaaGreat.Sh
namespace Go.Proofs.YteanekphncdhiaaGreat.Sh
open Go
set_option linter.unusedVariables false
set_option linter.unusedSimpArgs false
structure SF (s:Stage):Prop where
 num:s.Num=⟨0,0,0⟩
 den:s.Den=⟨0,0,0⟩
 l1:1≤s.Taps.length
 l2:s.Taps.length≤10
 tap:∀ x∈s.Taps,0≤x∧x≤4
 pos:∃ x∈s.Taps,1≤x
 f0:1≤s.Factor
 f1:s.Factor≤5
 s0:0≤s.Shift
 s1:s.Shift≤4
structure StI (s:List Int × Int × List Int × Int):Prop where
 dok:DOK ⟨s.1,s.2.1⟩
 tap:∀ x∈s.2.2.1,0≤x∧x≤4
 pos:∃ x∈s.2.2.1,1≤x
 i0:0≤s.2.2.2
 i1:2 * s.2.2.2+s.2.2.1.length≤5
theorem b2F {d:Dice} (hd:DOK d):∃ s d',a1A d=some (s,d')∧(SG0 s∨SG1 s∨s.Kind=2∧SF s)∧DOK d':=by
 unfold a1A
 obtain ⟨k,d1,e1,k0,k1,hd1⟩:=I7 hd (n:=3) (by decide) (by decide)
 rw [e1];simp only [Option.bind]
 by_cases c0:k=0
 ·obtain ⟨a,d2,e2,a0,a1,hd2⟩:=I7 hd1 (n:=9) (by decide) (by decide)
  obtain ⟨b,d3,e3,b0,b1,hd3⟩:=I7 hd2 (n:=9) (by decide) (by decide)
  rw [if_pos (by simp [c0]),e2];simp only
  rw [e3];simp only
  rw [G6 (x:=1+a) (by omega) (by omega),G6 (x:=1+b) (by omega) (by omega)]
  exact ⟨_,_,rfl,.inl ⟨rfl,rfl,rfl,rfl,by simp only;omega,by simp only;omega,by simp only;omega,by simp only;omega,rfl,rfl,rfl,rfl⟩,hd3⟩
 ·rw [if_neg (by simp [c0])]
  by_cases c1:k=1
  ·obtain ⟨a2,d2,e2,p0,p1,hd2⟩:=I7 hd1 (n:=9) (by decide) (by decide)
   obtain ⟨a3,d3,e3,p2,p3,hd3⟩:=I7 hd2 (n:=9) (by decide) (by decide)
   obtain ⟨a4,d4,e4,p4,p5,hd4⟩:=I7 hd3 (n:=3) (by decide) (by decide)
   obtain ⟨a5,d5,e5,p6,hd5⟩:=a2q hd4 (l:=[1,2,(-3),1048576]) (by decide) (by decide)
   obtain ⟨a6,d6,e6,p7,p8,hd6⟩:=I7 hd5 (n:=9) (by decide) (by decide)
   obtain ⟨a7,d7,e7,p9,hd7⟩:=a2q hd6 (l:=[0,1,1048576]) (by decide) (by decide)
   have q5:a5=1∨a5=2∨a5=-3∨a5=1048576:=by simpa using p6
   have q7:a7=0∨a7=1∨a7=1048576:=by simpa using p9
   rw [if_pos (by simp [c1]),e2];simp only
   rw [e3];simp only
   rw [e4];simp only
   rw [e5];simp only
   rw [e6];simp only
   rw [e7];simp only
   rw [G6 (x:=a2 - 4) (by omega) (by omega),G6 (x:=a3 - 4) (by omega) (by omega),G6 (x:=a6 - 4) (by omega) (by omega)]
   exact ⟨_,_,rfl,.inr (.inl ⟨rfl,rfl,rfl,rfl,by simp only;omega,by simp only;omega,by simp only;omega,by simp only;omega,by simp only;omega,by simp only;omega,by simp only;omega⟩),hd7⟩
  ·obtain ⟨a2,d2,e2,q0,q1,hd2⟩:=I7 hd1 (n:=4) (by decide) (by decide)
   obtain ⟨a3,d3,e3,hfa,hd3⟩:=a2q hd2 (l:=[1,1,2,5]) (by decide) (by decide)
   obtain ⟨a4,d4,e4,s0,s1,hd4⟩:=I7 hd3 (n:=5) (by decide) (by decide)
   obtain ⟨a5,d5,e5,i0,i1,hd5⟩:=I7 hd4 (n:=3) (by decide) (by decide)
   rw [if_neg (by simp [c1]),e2];simp only
   rw [e3];simp only
   rw [e4];simp only
   rw [e5];simp only
   rw [G6 (x:=1+a2) (by omega) (by omega)]
   have hfa':a3=1∨a3=2∨a3=5:=by simp at hfa;omega
   have hw:=b0W (body:=a1k) StI (fun s=>s.2.2.2.toNat)
    (fun e=>DOK ⟨e.1,e.2.1⟩∧(∀ x∈e.2.2,0≤x∧x≤4)∧(∃ x∈e.2.2,1≤x)∧e.2.2.length≤5) (by
     intro q hq
     obtain ⟨dok,tap,⟨z,hz,hz1⟩,i0,i1⟩:=hq
     by_cases hi:0<q.2.2.2
     ·left
      obtain ⟨x,d',ex,x0,x1,hd'⟩:=I7 dok (n:=4) (by decide) (by decide)
      unfold a1k
      rw [if_pos (decide_eq_true hi),ex]
      simp only [Option.bind]
      rw [E5 _ _ _ (by simp;omega) (by decide)]
      simp only
      rw [E5 _ _ _ (by simp;omega) (by decide),G6 (by omega) (by omega)]
      refine ⟨_,rfl,⟨hd',?_,⟨z,by simp [hz],hz1⟩,by simp only;omega,by simp;omega⟩,by simp only;omega⟩
      intro y hy
      simp only [List.mem_append,List.mem_singleton] at hy
      rcases hy with (rfl | hy) | rfl
      ·omega
      ·exact tap y hy
      ·omega
     ·right
      unfold a1k
      rw [if_neg (by simpa using hi)]
      exact ⟨_,rfl,dok,tap,⟨z,hz,hz1⟩,by simp only;omega⟩)
    (d5.L,d5.At,[1+a2],a5) ⟨hd5,by simp;omega,⟨1+a2,by simp,by omega⟩,i0,by simp;omega⟩
   obtain ⟨e,he,hde,tap,⟨z,hz,hz1⟩,hl⟩:=hw
   rw [he];simp only
   obtain ⟨a6,d6,e6,_,_,hd6⟩:=I7 hde (n:=6) (by decide) (by decide)
   rw [e6];simp only
   have hlp:1≤e.2.2.length:=List.length_pos_iff.2 (fun h=>by rw [h] at hz;cases hz)
   by_cases c6:a6=0
   ·rw [if_pos (by simp [c6]),E5 _ _ _ (by simp;omega) (by decide)]
    refine ⟨_,_,rfl,.inr (.inr ⟨rfl,rfl,rfl,by simp,by simp;omega,?_,⟨z,by simp [hz],hz1⟩,by simp only;omega,by simp only;omega,s0,by simp only;omega⟩),hd6⟩
    intro y hy
    simp only [List.mem_append,List.mem_singleton] at hy
    rcases hy with hy | rfl
    ·exact tap y hy
    ·omega
   ·rw [if_neg (by simp [c6])]
    exact ⟨_,_,rfl,.inr (.inr ⟨rfl,rfl,rfl,hlp,by simp only;omega,tap,⟨z,hz,hz1⟩,by simp only;omega,by simp only;omega,s0,by simp only;omega⟩),hd6⟩
theorem isum_pos {l:List Int} (h:∀ x∈l,0≤x) (hp:∃ x∈l,1≤x):1≤a5z l:=by
 induction l with
 | nil=>obtain ⟨x,hx,_⟩:=hp;cases hx
 | cons y l ih=>
  have hy:=h y (by simp)
  have hn:∀ l:List Int,(∀ x∈l,0≤x)→0≤a5z l:=fun l h=>by
   induction l with
   | nil=>exact Int.le_refl _
   | cons z l ih=>
    have:=h z (by simp)
    have:=ih (fun x hx=>h x (by simp [hx]))
    simp only [a5z];omega
  have h0:=hn l (fun x hx=>h x (by simp [hx]))
  obtain ⟨x,hx,h1⟩:=hp
  simp only [a5z]
  rcases List.mem_cons.1 hx with rfl | hx
  ·omega
  ·have:=ih (fun x hx=>h x (by simp [hx])) ⟨x,hx,h1⟩
   omega
theorem SF.sg {s:Stage} (hk:s.Kind=2) (h:SF s):SG2 s:=
 ⟨hk,h.num,h.den,h.l1,by have:=h.l2;omega,fun x hx=>by have:=h.tap x hx;omega,by have:=isum_pos (fun x hx=>(h.tap x hx).1) h.pos;omega,h.f0,by have:=h.f1;omega,h.s0,by have:=h.s1;omega⟩
theorem dstg {d:Dice} (hd:DOK d):∃ s d',a1A d=some (s,d')∧SG s∧DOK d':=by
 obtain ⟨s,d',e,h,hd'⟩:=b2F hd
 refine ⟨s,d',e,?_,hd'⟩
 rcases h with h | h | h
 ·exact .inl h
 ·exact .inr (.inl h)
 ·exact .inr (.inr (SF.sg h.1 h.2))
structure RW (r:Response):Prop where
 sg:∀ s∈r.Stages,SG s
 l8:r.Stages.length≤8
 f6:fac r.Stages≤64
theorem dresp {d:Dice} (hd:DOK d):∃ r d',U5 d=some (r,d')∧RW r∧DOK d':=by
 unfold U5
 obtain ⟨m,d1,e1,m0,m1,hd1⟩:=I7 hd (n:=4) (by decide) (by decide)
 rw [e1];simp only [Option.bind]
 obtain ⟨e,he,h1,h2,h3,h4⟩:=R3 (b1:=P8)
  (fun k s=>DOK ⟨s.1,s.2.1⟩∧(∀ x∈s.2.2.1,SG x)∧s.2.2.2.1=fac s.2.2.1∧fac s.2.2.1≤64∧0≤s.2.2.2.2∧s.2.2.2.2+s.2.2.1.length≤3∧k=s.2.2.2.2.toNat)
  (fun e=>DOK ⟨e.1,e.2.1⟩∧(∀ x∈e.2.2,SG x)∧e.2.2.length≤3∧fac e.2.2≤64)
  (fun k s ⟨hdk,hs,hn,hf,i0,i1,hk⟩=>by
   obtain ⟨L,At,l,n,i⟩:=s
   simp only at hdk hs hn hf i0 i1 hk
   subst hn
   by_cases hi:0<i
   ·obtain ⟨x,d',ex,hx,hd'⟩:=dstg hdk
    have hb:=b0b hx
    have hp:=a7z hs
    have hm:fac l * a3s x≤64 * 64:=Int.mul_le_mul hf hb.2 (by omega) (by decide)
    have hm0:1 * 1≤fac l * a3s x:=Int.mul_le_mul hp hb.1 (by decide) (by omega)
    have hfl:fac (l ++ [x])=fac l * a3s x:=by rw [a4W];simp [fac]
    have hall:∀ y∈l ++ [x],SG y:=fun y hy=>by
     rcases List.mem_append.1 hy with h | h
     ·exact hs y h
     ·rcases List.mem_singleton.1 h with rfl;exact hx
    have j1:∀ n,n=fac (l ++ [x])→U1 (L,At,l,fac l,i) (x,d') n=some (.inl (d'.L,d'.At,l ++ [x],fac (l ++ [x]),i - 1)):=by
     intro n hn
     unfold U1
     rw [E5 _ _ _ (by simp;omega) (by decide)]
     simp only [Option.bind]
     rw [G6 (by omega) (by omega),hn]
    by_cases hk2:x.Kind=2
    ·have hf1:a3s x=x.Factor:=by unfold a3s;rw [if_pos hk2]
     by_cases h6:fac l * a3s x≤64
     ·left
      refine ⟨(d'.L,d'.At,l ++ [x],fac (l ++ [x]),i - 1),(i - 1).toNat,?_,⟨hd',hall,rfl,by simp only;omega,by simp only;omega,by simp;omega,rfl⟩,by omega⟩
      unfold P8
      simp only
      rw [if_pos (decide_eq_true hi),ex]
      simp only [Option.bind]
      rw [if_pos (by simp [hk2])]
      rw [hf1] at h6 hm hm0 hfl
      rw [G6 (by omega) (by omega),if_neg (by simp;omega)]
      exact j1 _ hfl.symm
     ·right
      refine ⟨(d'.L,d'.At,l),?_,hd',hs,by simp only;omega,hf⟩
      unfold P8
      simp only
      rw [if_pos (decide_eq_true hi),ex]
      simp only [Option.bind]
      rw [if_pos (by simp [hk2])]
      rw [hf1] at h6 hm hm0
      rw [G6 (by omega) (by omega),if_pos (decide_eq_true (by omega))]
    ·have hf1:a3s x=1:=by unfold a3s;rw [if_neg hk2]
     rw [hf1,Int.mul_one] at hfl
     left
     refine ⟨(d'.L,d'.At,l ++ [x],fac (l ++ [x]),i - 1),(i - 1).toNat,?_,⟨hd',hall,rfl,by simp only;omega,by simp only;omega,by simp;omega,rfl⟩,by omega⟩
     unfold P8
     simp only
     rw [if_pos (decide_eq_true hi),ex]
     simp only [Option.bind]
     rw [if_neg (by simpa using hk2)]
     exact j1 _ hfl.symm
   ·right
    refine ⟨(L,At,l),?_,hdk,hs,by simp only;omega,hf⟩
    unfold P8
    simp only
    rw [if_neg (by simpa using hi)]) m.toNat (d1.L,d1.At,[],1,m) ⟨hd1,by simp,rfl,by simp [fac],m0,by simp;omega,rfl⟩
 rw [he]
 exact ⟨_,_,rfl,⟨h2,by simp only;omega,h4⟩,h1⟩
theorem a6n {α:Type} {d:Dice} (hd:DOK d) (l:List α) (n:Int) (hn:n=l.length) (h1:1≤l.length) (h2:l.length≤1000) :
  ∃ x d' y,u6 d n=some (x,d')∧ix l x=some y∧y∈l∧DOK d':=by
 obtain ⟨x,d',e,x0,x1,hd'⟩:=I7 hd (n:=n) (by omega) (by omega)
 exact ⟨x,d',_,e,b2N l x x0 (by omega),List.getElem_mem _,hd'⟩
theorem b1R {d:Dice} (hd:DOK d):∃ s d',a2p d=some (s,d')∧a5j s=true∧DOK d':=by
 unfold a2p
 obtain ⟨x1,d1,y1,e1,g1,m1,hd1⟩:=a6n hd [(⟨#[71,82]⟩:ByteArray),(⟨#[88]⟩:ByteArray),(⟨#[55,65]⟩:ByteArray)] 3 (by decide) (by decide) (by decide)
 obtain ⟨x2,d2,y2,e2,g2,m2,hd2⟩:=a6n hd1 [(⟨#[70,85,82]⟩:ByteArray),(⟨#[65]⟩:ByteArray),(⟨#[65,66,67,68,69]⟩:ByteArray),(⟨#[70,85]⟩:ByteArray)] 4 (by decide) (by decide) (by decide)
 obtain ⟨x3,d3,y3,e3,g3,m3,hd3⟩:=a6n hd2 [(⟨#[]⟩:ByteArray),(⟨#[48,48]⟩:ByteArray),(⟨#[49,48]⟩:ByteArray)] 3 (by decide) (by decide) (by decide)
 obtain ⟨x4,d4,y4,e4,g4,m4,hd4⟩:=a6n hd3 [(⟨#[72,72,90]⟩:ByteArray),(⟨#[72,72,78]⟩:ByteArray),(⟨#[66,72,90]⟩:ByteArray)] 3 (by decide) (by decide) (by decide)
 rw [e1];simp only [Option.bind]
 rw [g1];simp only
 rw [e2];simp only
 rw [g2];simp only
 rw [e3];simp only
 rw [g3];simp only
 rw [e4];simp only
 rw [g4]
 refine ⟨_,_,rfl,?_,hd4⟩
 have h1:a1e y1 1 2=true:=by
  simp only [List.mem_cons,List.not_mem_nil,or_false] at m1
  rcases m1 with rfl | rfl | rfl <;> decide
 have h2:a1e y2 1 5=true:=by
  simp only [List.mem_cons,List.not_mem_nil,or_false] at m2
  rcases m2 with rfl | rfl | rfl | rfl <;> decide
 have h3:(a1e y3 0 2 && !((y3.size:Int) == 1))=true:=by
  simp only [List.mem_cons,List.not_mem_nil,or_false] at m3
  rcases m3 with rfl | rfl | rfl <;> decide
 have h4:a1e y4 3 3=true:=by
  simp only [List.mem_cons,List.not_mem_nil,or_false] at m4
  rcases m4 with rfl | rfl | rfl <;> decide
 simp only [Bool.and_eq_true] at h3
 simp only [a5j,h1,h2,h3.1,h3.2,h4,Bool.and_self]
theorem gcd_pos' {a b:Int} (ha:1≤a):1≤(Int.gcd a b:Int):=by
 have:Int.gcd a b≠0:=fun h=>by
  have:=(Int.gcd_eq_zero_iff.1 h).1
  omega
 omega
theorem New_eq {a b:Int} (a0:1≤a) (a1:a≤4096) (b0:1≤b) (b1:b≤4096):∃ r,a7C a b=some (r,0)∧RV r:=by
 have g:=gcd_pos' (a:=a) (b:=b) a0
 have d1:(Int.gcd a b:Int) ∣ a:=Int.gcd_dvd_left ..
 have d2:(Int.gcd a b:Int) ∣ b:=Int.gcd_dvd_right ..
 have p1:0<a / (Int.gcd a b:Int):=Int.ediv_pos_of_pos_of_dvd (by omega) (by omega) d1
 have p2:0<b / (Int.gcd a b:Int):=Int.ediv_pos_of_pos_of_dvd (by omega) (by omega) d2
 have l1:a / (Int.gcd a b:Int)≤a:=Int.ediv_le_self _ (by omega)
 have l2:b / (Int.gcd a b:Int)≤b:=Int.ediv_le_self _ (by omega)
 unfold a7C Q9
 rw [show (decide (1≤a))=true from decide_eq_true a0,show (decide (a≤4096))=true from decide_eq_true a1,show (decide (1≤b))=true from decide_eq_true b0,show (decide (b≤4096))=true from decide_eq_true b1]
 simp only [Option.bind,Bool.and_self,Bool.not_true,Bool.false_eq_true,if_false]
 rw [a8S _ _ (by omega) (by omega)]
 simp only
 rw [quo_nn (by omega) (by omega) (by omega),quo_nn (by omega) (by omega) (by omega)]
 refine ⟨_,rfl,⟨p1,by simp only;omega,p2,by simp only;omega,?_⟩⟩
 simp only
 obtain ⟨x,rfl⟩:=Int.eq_ofNat_of_zero_le (show 0≤a by omega)
 obtain ⟨y,rfl⟩:=Int.eq_ofNat_of_zero_le (show 0≤b by omega)
 rw [Int.gcd_natCast_natCast,← Int.natCast_ediv,← Int.natCast_ediv,Int.gcd_natCast_natCast]
 exact Nat.coprime_div_gcd_div_gcd (Nat.gcd_pos_of_pos_left _ (by omega))
theorem b3w {d:Dice} (hd:DOK d):∃ r d',a3B d=some (r,d')∧RV r∧DOK d':=by
 obtain ⟨x,d1,e1,m1,hd1⟩:=a2q hd (l:=[1,3,20,100,40,4096,7]) (by decide) (by decide)
 obtain ⟨y,d2,e2,m2,hd2⟩:=a2q hd1 (l:=[1,1,1,3,7,4096]) (by decide) (by decide)
 unfold a3B
 rw [e1];simp only [Option.bind]
 rw [e2];simp only
 have hx:1≤x∧x≤4096:=by
  simp only [List.mem_cons,List.not_mem_nil,or_false] at m1
  omega
 have hy:1≤y∧y≤4096:=by
  simp only [List.mem_cons,List.not_mem_nil,or_false] at m2
  omega
 obtain ⟨r,er,hr⟩:=New_eq hx.1 hx.2 hy.1 hy.2
 rw [er]
 exact ⟨r,d2,rfl,hr,hd2⟩
structure CD (c:Change):Prop where
 s:a5j c.Source=true
 e:CE c.Epoch
theorem RW.ce {r:Response} (h:RW r):r.Stages.length≤1000∧∀ s∈r.Stages,s.Taps.length≤1000:=⟨by have:=h.l8;omega,fun s hs=>by have:=(h.sg s hs).taps;omega⟩
theorem depoch {d:Dice} (hd:DOK d):∃ e d',a2Q d=some (e,d')∧CE e∧DOK d':=by
 obtain ⟨x1,d1,e1,_,_,hd1⟩:=I7 hd (n:=20) (by decide) (by decide)
 obtain ⟨r,d2,e2,_,hd2⟩:=b3w hd1
 obtain ⟨x3,d3,e3,_,_,hd3⟩:=I7 hd2 (n:=8) (by decide) (by decide)
 obtain ⟨x4,d4,e4,_,hd4⟩:=a2q hd3 (l:=[0,500,(-1048576),1048576]) (by simp) (by simp)
 obtain ⟨x5,d5,e5,_,_,hd5⟩:=I7 hd4 (n:=1000) (by decide) (by decide)
 obtain ⟨x6,d6,e6,_,hd6⟩:=a2q hd5 (l:=[0,(-200),(-16384)]) (by simp) (by simp)
 obtain ⟨x7,d7,e7,_,_,hd7⟩:=I7 hd6 (n:=2) (by decide) (by decide)
 unfold a2Q
 simp only [e1,e2,e3,e4,e5,e6,e7,Option.bind_some]
 by_cases h:(x7 == 0)=true
 ·obtain ⟨q,d8,e8,hq,hd8⟩:=dresp hd7
  rw [if_pos h,e8]
  simp only [Option.bind_some]
  exact ⟨_,_,rfl,hq.ce,hd8⟩
 ·rw [if_neg h]
  exact ⟨_,_,rfl,⟨by simp,fun s hs=>by cases hs⟩,hd7⟩
theorem b2D {d:Dice} {inv:Inventory} (hv:VI inv) {k:Int × Dice} {s:SourceID × Dice} (hs:a5j s.1=true) {l:List Int} {a:Int} (hd:DOK ⟨l,a⟩) (x62 x63 x64 x65 x66 x67 x68 x69:Int) {st:List Stage} (hst:st.length≤1000∧∀ s∈st,s.Taps.length≤1000) :
  ∃ c d',X6 inv k s l a x62 x63 x64 x65 x66 x67 x68 x69 st=some (c,d')∧CD c∧DOK d':=by
 have hlen:=hv.n
 unfold X6
 simp only [Option.bind_some]
 have hfin:∀ (l':List Int) (a':Int),DOK ⟨l',a'⟩→∃ c d',a0H k l' a' s.1.Network s.1.Station s.1.Location s.1.Channel x62 x63 x64 x65 x66 x67 x68 x69 st=some (c,d')∧CD c∧DOK d':=fun l' a' h=>⟨_,_,rfl,⟨hs,hst⟩,h⟩
 by_cases hn:(0:Int)<(inv.Channels.length:Int)
 ·obtain ⟨y,d1,e1,y0,y1,hd1⟩:=I7 hd (n:=3) (by decide) (by decide)
  rw [if_pos (decide_eq_true hn),e1]
  simp only [Option.bind_some]
  by_cases hy:(decide (0<y))=true
  ·rw [if_pos hy]
   obtain ⟨z,d2,e2,z0,z1,hd2⟩:=I7 (d:=⟨d1.L,d1.At⟩) hd1 (n:=(inv.Channels.length:Int)) (by omega) (by omega)
   rw [e2]
   simp only [Option.bind_some]
   have hzl:z.toNat<inv.Channels.length:=by omega
   rw [b2N _ _ z0 z1]
   simp only [Option.bind_some]
   have hmem:=List.getElem_mem hzl
   have hes:=hv.e _ hmem
   have hss:=hv.s _ hmem
   generalize inv.Channels[z.toNat]=ch at hes hss hmem
   have hj3:∀ (l':List Int) (a' w1 w2 w3 w4 w5 w6 w7 w8:Int) (st':List Stage),DOK ⟨l',a'⟩→(st'.length≤1000∧∀ s∈st',s.Taps.length≤1000)→∃ c d',a0I k ch l' a' w1 w2 w3 w4 w5 w6 w7 w8 st'=some (c,d')∧CD c∧DOK d':=fun l' a' w1 w2 w3 w4 w5 w6 w7 w8 st' h h'=>⟨_,_,rfl,⟨hss,h'⟩,h⟩
   by_cases hk:(k.1 != 0)=true
   ·rw [if_pos hk]
    have h32:=hv.m _ hmem
    have hne:=List.length_pos_iff.2 hes.ne
    obtain ⟨w,d3,e3,w0,w1,hd3⟩:=I7 hd2 (n:=(ch.Epochs.length:Int)) (by omega) (by omega)
    rw [e3]
    simp only [Option.bind_some]
    rw [b2N _ _ w0 w1]
    simp only [Option.bind_some]
    have hve:=hes.v _ (List.getElem_mem (show w.toNat<ch.Epochs.length by omega))
    generalize ch.Epochs[w.toNat]=ep at hve
    have hj4:∀ (l':List Int) (a' w2 w3 w4 w5 w6 w7 w8:Int) (st':List Stage),DOK ⟨l',a'⟩→(st'.length≤1000∧∀ s∈st',s.Taps.length≤1000)→∃ c d',X7 k ch ep l' a' w2 w3 w4 w5 w6 w7 w8 st'=some (c,d')∧CD c∧DOK d':=fun l' a' w2 w3 w4 w5 w6 w7 w8 st' h h'=>hj3 _ _ _ _ _ _ _ _ _ _ _ h h'
    have hrest:∀ q:List Int × Int × Bool,DOK ⟨q.1,q.2.1⟩→∃ c d',(if q.2.2=true then
      (T9 ep).bind fun rv714=>(u6 (⟨q.1,q.2.1⟩:Dice) 3).bind fun rv727=>
      if (rv727.1 == 0)=true then (L9 rv727.2 ([(-1),500,3000]:List Int)).bind fun rv853=>a0J k ch ep rv714 rv853.2.L rv853.2.At (w64 (rv714.To+rv853.1)) rv714.Position.X rv714.Response.Stages
      else if (rv727.1 == 1)=true then a0K k ch ep rv714 rv727.2.L rv727.2.At 77 rv714.Response.Stages
      else if (rv727.1 == 2)=true then (U5 rv727.2).bind fun rv964=>X8 k ch ep rv714 rv964.2.L rv964.2.At rv964.1.Stages
      else X8 k ch ep rv714 rv727.2.L rv727.2.At rv714.Response.Stages
     else X7 k ch ep q.1 q.2.1 x63 x64 x65 x66 x67 x68 x69 st)=some (c,d')∧CD c∧DOK d':=fun q hq=>by
     by_cases hb:q.2.2=true
     ·rw [if_pos hb,a6p hve.ce]
      obtain ⟨v,d4,e4,v0,v1,hd4⟩:=I7 hq (n:=3) (by decide) (by decide)
      simp only [Option.bind_some,e4]
      by_cases g0:(v == 0)=true
      ·rw [if_pos g0]
       obtain ⟨u,d5,e5,_,hd5⟩:=a2q hd4 (l:=[(-1),500,3000]) (by simp) (by simp)
       rw [e5]
       exact hj4 _ _ _ _ _ _ _ _ _ _ hd5 hve.ce
      ·rw [if_neg g0]
       by_cases g1:(v == 1)=true
       ·rw [if_pos g1];exact hj4 _ _ _ _ _ _ _ _ _ _ hd4 hve.ce
       ·rw [if_neg g1]
        by_cases g2:(v == 2)=true
        ·rw [if_pos g2]
         obtain ⟨r,d5,e5,hr,hd5⟩:=dresp hd4
         rw [e5]
         exact hj4 _ _ _ _ _ _ _ _ _ _ hd5 hr.ce
        ·rw [if_neg g2];exact hj4 _ _ _ _ _ _ _ _ _ _ hd4 hve.ce
     ·rw [if_neg hb];exact hj4 _ _ _ _ _ _ _ _ _ _ hq hst
    by_cases hk2:(k.1 == 2)=true
    ·obtain ⟨v,d4,e4,v0,v1,hd4⟩:=I7 hd3 (n:=3) (by decide) (by decide)
     rw [if_pos hk2,e4]
     simp only [Option.bind_some]
     exact hrest (d4.L,d4.At,decide (0<v)) hd4
    ·rw [if_neg hk2]
     simp only [Option.bind_some]
     exact hrest (d3.L,d3.At,false) hd3
   ·rw [if_neg hk]
    exact hj3 _ _ _ _ _ _ _ _ _ _ _ hd2 hst
  ·rw [if_neg hy]
   exact hfin _ _ hd1
 ·rw [if_neg (by simpa using hn)]
  simp only [Option.bind_some]
  rw [if_neg (by simp)]
  exact hfin _ _ hd
theorem b4c {d:Dice} (hd:DOK d) {inv:Inventory} (hv:VI inv):∃ c d',U4 d inv=some (c,d')∧CD c∧DOK d':=by
 obtain ⟨k,d1,e1,_,hd1⟩:=a2q hd (l:=[0,0,1,2]) (by simp) (by simp)
 obtain ⟨s,d2,e2,hs,hd2⟩:=b1R hd1
 unfold U4
 simp only [e1,e2,Option.bind_some]
 by_cases hk:(k != 1)=true
 ·obtain ⟨e,d3,e3,he,hd3⟩:=depoch hd2
  rw [if_pos hk,e3]
  exact b2D (d:=d) hv (k:=(k,d1)) (s:=(s,d2)) hs (l:=d3.L) (a:=d3.At) hd3 _ _ _ _ _ _ _ _ he
 ·rw [if_neg hk]
  exact b2D (d:=d) hv (k:=(k,d1)) (s:=(s,d2)) hs (l:=d2.L) (a:=d2.At) hd2 _ _ _ _ _ _ _ _ ⟨by simp,fun s hs=>by cases hs⟩
end Go.Proofs.YteanekphncdhiaaGreat.Sh

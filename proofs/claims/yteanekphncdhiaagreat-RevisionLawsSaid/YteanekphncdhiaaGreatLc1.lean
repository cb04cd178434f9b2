/- The plain law: what the plain programs compute, put together in one text. -/
import Derived.Test.YteanekphncdhiaaGreatLa1
import Derived.Laws.Strings
import Derived.Test.YteanekphncdhiaaGreatLb1
import Derived.WalkKit
import Derived.ProofKit
import Derived.OpenShut
import Derived.ShutString
import Derived.ChangeOld
import Derived.Below
import Derived.SizedLaws
namespace Go.Proofs.YteanekphncdhiaaGreat.Sh
open Go
theorem G6 {x:Int} (h1:-9223372036854775808≤x) (h2:x≤9223372036854775807):w64 x=x:=by
 simp only [w64,IntKind.wrap,IntKind.bits,IntKind.signed]
 simp only [Int.reducePow,Nat.reduceSub,Bool.true_and]
 split
 ·next h=>have h:=of_decide_eq_true h;omega
 ·next h=>have h:=mt decide_eq_true h;omega
theorem u64_id {x:Int} (h1:0≤x) (h2:x≤9223372036854775807):IntKind.u64.wrap x=x:=by
 simp only [IntKind.wrap,IntKind.bits,IntKind.signed]
 simp only [Int.reducePow,Bool.false_and,Bool.false_eq_true,if_false]
 omega
theorem b3P {σ β:Type} {body:σ→Option (σ ⊕ β)} (f:Nat→σ) (n:Nat) (r:β) (h:∀ i,i<n→body (f i)=some (.inl (f (i+1)))) (he:body (f n)=some (.inr r)):o5 body (f 0)=some r:=by
 have key:∀ m,m≤n→o5 body (f (n - m))=some r:=by
  intro m
  induction m with
  | zero=>intro _;rw [I8,Nat.sub_zero,he];rfl
  | succ m ih=>
   intro hm
   rw [I8,h (n - (m+1)) (by omega)]
   have:n - (m+1)+1=n - m:=by omega
   simp only [Option.bind]
   rw [this]
   exact ih (by omega)
 have:=key n (Nat.le_refl _)
 rwa [Nat.sub_self] at this
theorem a0y {σ β:Type} {body:σ→Option (σ ⊕ β)} {s:σ} (f:Nat→σ) (n:Nat) (r:β) (h0:f 0=s) (h:∀ i,i<n→body (f i)=some (.inl (f (i+1)))) (he:body (f n)=some (.inr r)):o5 body s=some r:=by
 rw [← h0];exact b3P f n r h he
theorem w9 {α:Type} (xs:List α) (i:Nat) (h:i<xs.length):ix xs (i:Int)=some xs[i]:=by
 simp only [ix,Int.natCast_nonneg,if_true,Int.toNat_natCast]
 exact List.getElem?_eq_getElem h
theorem b2N {α:Type} (xs:List α) (i:Int) (h0:0≤i) (h:i<xs.length):ix xs i=some (xs[i.toNat]'(by omega)):=by
 simp only [ix,h0,if_true]
 exact List.getElem?_eq_getElem (by omega)
theorem a2w {α:Type} (xs:List α) (i:Int) (v:α) (h0:0≤i) (h:i<xs.length):a3Q xs i v=some (xs.set i.toNat v):=by
 simp only [a3Q,h0,h,and_self,if_true]
theorem E5 {α:Type} (bytes:Nat) (xs ys:List α) (h:xs.length+ys.length≤1000000) (hb:bytes≤1000):R5 bytes xs ys=some (xs ++ ys):=by
 unfold R5
 rw [if_pos]
 refine ⟨?_,?_⟩
 ·have:(1000000:Nat)≤maxLen:=by decide
  omega
 ·calc (xs.length+ys.length) * bytes≤1000000 * 1000:=Nat.mul_le_mul h hb
   _≤140737488355328:=by decide
theorem b2R {α:Type} (bytes:Nat) (z:α) (n:Int) (h0:0≤n) (h:n≤1000000) (hb:bytes≤1000):b0r bytes z n=some (List.replicate n.toNat z):=by
 unfold b0r
 rw [if_pos]
 refine ⟨h0,by omega,?_⟩
 have:(bytes:Int) * n≤1000 * 1000000:=Int.mul_le_mul (by omega) h h0 (by omega)
 omega
theorem b4m (m n:Int) (h:n≠0):remM m n=some (m.tmod n):=by simp [remM,h]
theorem quoM_at (k:IntKind) (m n:Int) (h:n≠0):quoM k m n=some (k.wrap (m.tdiv n)):=by simp [quoM,h]
theorem C9 {α:Type} {xs:List α} {i:Nat} (h:i<xs.length):xs.take (i+1)=xs.take i ++ [xs[i]]:=by
 rw [List.take_succ_eq_append_getElem h]
end Go.Proofs.YteanekphncdhiaaGreat.Sh
namespace Go.Proofs.YteanekphncdhiaaGreat.Sh
open Go
set_option linter.unusedVariables false
set_option linter.unusedSimpArgs false
theorem a8J {β:Type} {body:Int→Option (Int ⊕ β)} (n:Nat) (p:Nat→Bool) (r0 r1:β)
  (h1:∀ i:Nat,i<n→p i=true→body (i:Int)=some (.inl ((i+1:Nat):Int))) (h2:∀ i:Nat,i<n→p i=false→body (i:Int)=some (.inr r0)) (h3:body (n:Int)=some (.inr r1)) :
  o5 body 0=some (if (List.range n).all p=true then r1 else r0):=by
 have key:∀ m,m≤n→o5 body ((n - m:Nat):Int)=some (if (List.range' (n - m) m).all p=true then r1 else r0):=by
  intro m
  induction m with
  | zero=>intro _;rw [I8,Nat.sub_zero,h3];rfl
  | succ m ih=>
   intro hm
   have ih:=ih (by omega)
   rw [show n - m=n - (m+1)+1 by omega] at ih
   rw [I8,List.range'_succ,List.all_cons]
   cases hp:p (n - (m+1)) with
   | true=>
    rw [h1 _ (by omega) hp]
    simp only [Option.bind,Bool.true_and]
    exact ih
   | false=>
    rw [h2 _ (by omega) hp]
    simp
 have:=key n (Nat.le_refl _)
 rw [Nat.sub_self] at this
 rw [List.range_eq_range']
 exact this
theorem a9t {α:Type} (l:List α) (q:α→Bool) (p:Nat→Bool) (h:∀ i (hi:i<l.length),p i=q l[i]):(List.range l.length).all p=l.all q:=by
 rw [Bool.eq_iff_iff,List.all_eq_true,List.all_eq_true]
 constructor
 ·intro H x hx
  obtain ⟨i,hi,rfl⟩:=List.getElem_of_mem hx
  rw [← h i hi]
  exact H i (List.mem_range.2 hi)
 ·intro H i hi
  have hi:=List.mem_range.1 hi
  rw [h i hi]
  exact H _ (List.getElem_mem _)
theorem a0B {α:Type} (xs:List α) (a b:Nat) (h1:a≤b) (h2:b≤xs.length):D8 xs (a:Int) (b:Int)=some ((xs.take b).drop a):=by
 unfold D8
 rw [if_pos (by omega)]
 simp only [Int.toNat_natCast]
theorem b4L {α:Type} [DecidableEq α] {body:Int→Option (Int ⊕ Bool)} (a b:List α) (e:α→α→Bool) (he:∀ x y,e x y=true↔x=y) (hl:a.length=b.length)
  (h1:∀ i:Nat,(hi:i<a.length)→e a[i] (b[i]'(by omega))=true→body (i:Int)=some (.inl ((i+1:Nat):Int))) (h2:∀ i:Nat,(hi:i<a.length)→e a[i] (b[i]'(by omega))=false→body (i:Int)=some (.inr false))
  (h3:body (a.length:Int)=some (.inr true)):o5 body 0=some (decide (a=b)):=by
 rw [a8J a.length (fun i=>if h:i<a.length then e a[i] (b[i]'(by omega)) else true) false true (fun i hi hp=>h1 i hi (by simpa [hi] using hp)) (fun i hi hp=>h2 i hi (by simpa [hi] using hp)) h3]
 have:(List.range a.length).all (fun i=>if h:i<a.length then e a[i] (b[i]'(by omega)) else true)=decide (a=b):=by
  rw [Bool.eq_iff_iff,List.all_eq_true,decide_eq_true_iff]
  constructor
  ·intro H
   refine List.ext_getElem hl fun i hi hi'=>?_
   have:=H i (List.mem_range.2 hi)
   simp only [hi,dif_pos] at this
   exact (he _ _).1 this
  ·intro H i hi
   subst H
   have hi:=List.mem_range.1 hi
   simp only [hi,dif_pos]
   exact (he _ _).2 rfl
 rw [this]
 cases decide (a=b) <;> rfl
end Go.Proofs.YteanekphncdhiaaGreat.Sh
namespace Go.Proofs.YteanekphncdhiaaGreat.Sh
open Go
set_option linter.unusedVariables false
set_option linter.unusedSimpArgs false
structure Cmp {α:Type} (c:α→α→Int):Prop where
 anti:∀ a b,c b a=-c a b
 trans:∀ a b d,c a b<0→c b d<0→c a d<0
 eq0:∀ a b,c a b=0→∀ d,c a d=c b d
theorem Cmp.refl {α:Type} {c:α→α→Int} (h:Cmp c) (a:α):c a a=0:=by have:=h.anti a a;omega
def andThen {α:Type} (c d:α→α→Int) (a b:α):Int:=if c a b≠0 then c a b else d a b
theorem Cmp.andThen {α:Type} {c d:α→α→Int} (hc:Cmp c) (hd:Cmp d):Cmp (andThen c d):=by
 refine ⟨fun a b=>?_,fun a b e h1 h2=>?_,fun a b h e=>?_⟩
 ·unfold Sh.andThen
  have h1:=hc.anti a b
  have h2:=hd.anti a b
  by_cases h:c a b=0
  ·rw [if_neg (by omega),if_neg (by omega)];exact h2
  ·rw [if_pos (by omega),if_pos h];exact h1
 ·unfold Sh.andThen at *
  by_cases ha:c a b=0
  ·rw [if_neg (by omega)] at h1
   have e1:=hc.eq0 a b ha e
   rw [e1]
   by_cases hb:c b e=0
   ·rw [if_neg (by omega)] at h2 ⊢
    exact hd.trans a b e h1 h2
   ·rw [if_pos hb] at h2 ⊢
    exact h2
  ·rw [if_pos ha] at h1
   by_cases hb:c b e=0
   ·have hb':c e b=0:=by have:=hc.anti b e;omega
    have e1:=hc.eq0 e b hb' a
    have e2:=hc.anti a e
    have e3:=hc.anti a b
    rw [if_pos (by omega)]
    omega
   ·rw [if_pos hb] at h2
    have:=hc.trans a b e h1 h2
    rw [if_pos (by omega)]
    exact this
 ·unfold Sh.andThen at *
  by_cases ha:c a b=0
  ·rw [if_neg (by omega)] at h
   have e1:=hc.eq0 a b ha e
   have e2:=hd.eq0 a b h e
   rw [e1,e2]
  ·rw [if_pos ha] at h
   exact absurd h ha
theorem Cmp.by {α β:Type} {c:β→β→Int} (h:Cmp c) (f:α→β):Cmp (fun a b=>c (f a) (f b)):=⟨fun _ _=>h.anti _ _,fun _ _ _=>h.trans _ _ _,fun _ _ e _=>h.eq0 _ _ e _⟩
def cmpI (a b:Int):Int:=if a<b then -1 else if b<a then 1 else 0
theorem b2y:Cmp cmpI:=by
 refine ⟨fun a b=>?_,fun a b d h1 h2=>?_,fun a b h d=>?_⟩ <;> unfold cmpI at * <;> (repeat' split) <;> (repeat' split at *) <;> omega
theorem cmpI_eq {a b:Int} (h:cmpI a b=0):a=b:=by unfold cmpI at h;split at h <;> (try split at h) <;> omega
def a1O {α:Type} (c:α→α→Int):List α→List α→Int
 | [],[]=>0
 | [],_ :: _=>-1
 | _ :: _,[]=>1
 | a :: x,b :: y=>if c a b≠0 then c a b else a1O c x y
theorem b2Q {α:Type} {c:α→α→Int} (h:Cmp c):Cmp (a1O c):=by
 have anti:∀ a b,a1O c b a=-a1O c a b:=by
  intro a
  induction a with
  | nil=>intro b;cases b <;> simp [a1O]
  | cons x a ih=>
   intro b
   cases b with
   | nil=>simp [a1O]
   | cons y b=>
    simp only [a1O]
    have h1:=h.anti x y
    have h2:=ih b
    by_cases hx:c x y=0
    ·rw [if_neg (by omega),if_neg (by omega)];exact h2
    ·rw [if_pos (by omega),if_pos hx];exact h1
 have eq0:∀ a b,a1O c a b=0→∀ d,a1O c a d=a1O c b d:=by
  intro a
  induction a with
  | nil=>intro b hb d;cases b with
   | nil=>rfl
   | cons y b=>simp [a1O] at hb
  | cons x a ih=>
   intro b hb d
   cases b with
   | nil=>simp [a1O] at hb
   | cons y b=>
    simp only [a1O] at hb
    by_cases hx:c x y=0
    ·rw [if_neg (by omega)] at hb
     cases d with
     | nil=>rfl
     | cons z d=>
      simp only [a1O]
      rw [h.eq0 x y hx z,ih b hb d]
    ·rw [if_pos hx] at hb;exact absurd hb hx
 refine ⟨anti,?_,eq0⟩
 intro a
 induction a with
 | nil=>
  intro b d h1 h2
  cases b with
  | nil=>simp [a1O] at h1
  | cons y b=>
   cases d with
   | nil=>simp [a1O] at h2
   | cons z d=>simp [a1O]
 | cons x a ih=>
  intro b d h1 h2
  cases b with
  | nil=>simp [a1O] at h1
  | cons y b=>
   cases d with
   | nil=>simp [a1O] at h2
   | cons z d=>
    simp only [a1O] at *
    by_cases hx:c x y=0
    ·rw [if_neg (by omega)] at h1
     rw [h.eq0 x y hx z]
     by_cases hy:c y z=0
     ·rw [if_neg (by omega)] at h2 ⊢
      exact ih b d h1 h2
     ·rw [if_pos hy] at h2 ⊢
      exact h2
    ·rw [if_pos hx] at h1
     by_cases hy:c y z=0
     ·have hy':c z y=0:=by have:=h.anti y z;omega
      have e1:=h.eq0 z y hy' x
      have e2:=h.anti x z
      have e3:=h.anti x y
      rw [if_pos (by omega)]
      omega
     ·rw [if_pos hy] at h2
      have:=h.trans x y z h1 h2
      rw [if_pos (by omega)]
      exact this
theorem b1W {α:Type} {c:α→α→Int} (hc:∀ a b,c a b=0→a=b):∀ (a b:List α),a1O c a b=0→a=b
 | [],[],_=>rfl
 | [],_ :: _,h=>by simp [a1O] at h
 | _ :: _,[],h=>by simp [a1O] at h
 | x :: a,y :: b,h=>by
  simp only [a1O] at h
  by_cases hx:c x y=0
  ·rw [if_neg (by omega)] at h
   rw [hc x y hx,b1W hc a b h]
  ·rw [if_pos hx] at h;exact absurd h hx
def cmpU (a b:UInt8):Int:=cmpI a.toNat b.toNat
def a6U (a b:ByteArray):Int:=a1O cmpU a.data.toList b.data.toList
theorem b3Z {a b:UInt8} (h:cmpU a b=0):a=b:=by
 have:=cmpI_eq h
 exact UInt8.toNat_inj.1 (by omega)
theorem a8E:Cmp a6U:=(b2Q (b2y.by fun a:UInt8=>(a.toNat:Int))).by fun a:ByteArray=>a.data.toList
theorem a9Z {a b:ByteArray} (h:a6U a b=0):a=b:=by
 have:=b1W (fun _ _=>b3Z) _ _ h
 cases a;cases b
 simp only at this
 congr 1
 exact Array.ext' this
theorem b2P:∀ (x y:List UInt8),Op.bytesLess x y=decide (a1O cmpU x y<0)
 | _,[]=>by cases ‹List UInt8› <;> simp [Op.bytesLess,a1O]
 | [],_ :: _=>by simp [Op.bytesLess,a1O]
 | a :: x,b :: y=>by
  simp only [Op.bytesLess,a1O,b2P x y]
  unfold cmpU cmpI
  by_cases h1:a<b
  ·have h1':(a.toNat:Int)<b.toNat:=by have:=UInt8.lt_iff_toNat_lt.1 h1;omega
   simp [h1,h1']
  ·have h1':¬ (a.toNat:Int)<b.toNat:=fun h=>h1 (UInt8.lt_iff_toNat_lt.2 (by omega))
   by_cases h2:b<a
   ·have h2':(b.toNat:Int)<a.toNat:=by have:=UInt8.lt_iff_toNat_lt.1 h2;omega
    have hne:(a == b)=false:=by simp;intro h;subst h;omega
    simp [h1,h1',h2',hne]
   ·have h2':¬ (b.toNat:Int)<a.toNat:=fun h=>h2 (UInt8.lt_iff_toNat_lt.2 (by omega))
    have he:a=b:=UInt8.toNat_inj.1 (by omega)
    subst he
    simp
theorem eq_lex (x y:List UInt8):(x == y)=decide (a1O cmpU x y=0):=by
 rw [Bool.eq_iff_iff,decide_eq_true_iff,beq_iff_eq]
 constructor
 ·intro h;subst h;exact (b2Q (b2y.by fun a:UInt8=>(a.toNat:Int))).refl x
 ·exact b1W (fun _ _=>b3Z) x y
theorem b0q:∀ (x y:List UInt8),a1O cmpU x y=-1∨a1O cmpU x y=0∨a1O cmpU x y=1
 | [],[]=>by simp [a1O]
 | [],_ :: _=>by simp [a1O]
 | _ :: _,[]=>by simp [a1O]
 | a :: x,b :: y=>by
  simp only [a1O]
  split
  ·unfold cmpU cmpI;split <;> (try split) <;> simp
  ·exact b0q x y
theorem b0m (a b:ByteArray):a6U a b=if (Op.bytesLess a.toList b.toList)=true then -1 else if (!((Op.bytesLess a.toList b.toList) || (a.toList == b.toList)))=true then 1 else 0:=by
 rw [ByteArray.toList_eq,ByteArray.toList_eq,b2P,eq_lex]
 unfold a6U
 rcases b0q a.data.toList b.data.toList with h | h | h <;> rw [h] <;> decide
def orL:List Int→Int
 | []=>0
 | x :: r=>if x≠0 then x else orL r
end Go.Proofs.YteanekphncdhiaaGreat.Sh
namespace Go.Proofs.YteanekphncdhiaaGreat.Sh
open Go
set_option linter.unusedVariables false
set_option linter.unusedSimpArgs false
theorem R3 {σ β:Type} {b1:σ→Option (σ ⊕ β)} (R:Nat→σ→Prop) (Q:β→Prop)
  (h:∀ n s,R n s→(∃ s' n',b1 s=some (.inl s')∧R n' s'∧n'<n)∨∃ r,b1 s=some (.inr r)∧Q r) :
  ∀ n s,R n s→∃ r,o5 b1 s=some r∧Q r:=by
 intro n
 induction n using Nat.strongRecOn with
 | _ n ih=>
  intro s hR
  rcases h n s hR with ⟨s',n',e1,hR',hlt⟩ | ⟨r,e1,hq⟩
  ·obtain ⟨r,h1,h3⟩:=ih n' hlt s' hR'
   exact ⟨r,by rw [I8,e1];exact h1,h3⟩
  ·exact ⟨r,by rw [I8,e1];rfl,hq⟩
end Go.Proofs.YteanekphncdhiaaGreat.Sh
namespace Go.Proofs.YteanekphncdhiaaGreat.Sh
open Go
set_option linter.unusedVariables false
set_option linter.unusedSimpArgs false
section
variable {α:Type}
structure CmpOK (P:α→Prop) (cmp:α→α→Option Int) (lt:α→α→Bool):Prop where
 run:∀ x y,P x→P y→∃ c,cmp x y=some c∧decide (c<0)=lt x y
 irr:∀ x,P x→lt x x=false
 tr:∀ x y z,P x→P y→P z→lt x y=true→lt y z=true→lt x z=true
 ntr:∀ x y z,P x→P y→P z→lt x y=false→lt y z=false→lt x z=false
theorem b4v {x:Int} {n:Nat} (h:x=(n:Int)) (hn:n≤9000000000000000000):w64 x=(n:Int):=by rw [h,G6 (by omega) (by omega)]
variable {P:α→Prop} {cmp:α→α→Option Int} {lt:α→α→Bool}
theorem CmpOK.ltX_eq (hc:CmpOK P cmp lt) {x:List α} (hP:∀ y∈x,P y) (a b:{y // y∈x}):cmp a.1 b.1=some (cfX x cmp a b)∧ltX x cmp a b=lt a.1 b.1:=by
 obtain ⟨c,h1,h2⟩:=hc.run a.1 b.1 (hP _ a.2) (hP _ b.2)
 have e:cfX x cmp a b=c:=by unfold cfX;rw [h1];rfl
 exact ⟨by rw [e];exact h1,by unfold ltX;rw [e];exact h2⟩
theorem CmpOK.ok (hc:CmpOK P cmp lt) {x:List α} (hP:∀ y∈x,P y) (hl:x.length<1000000000000):SortOK x cmp:=by
 refine ⟨fun a b=>(hc.ltX_eq hP a b).1,⟨fun a=>?_,fun a b d h1 h2=>?_,fun a b d h1 h2=>?_⟩,hl⟩
 ·rw [(hc.ltX_eq hP a a).2];exact hc.irr _ (hP _ a.2)
 ·rw [(hc.ltX_eq hP _ _).2] at *;exact hc.tr _ _ _ (hP _ a.2) (hP _ b.2) (hP _ d.2) h1 h2
 ·rw [(hc.ltX_eq hP _ _).2] at *;exact hc.ntr _ _ _ (hP _ a.2) (hP _ b.2) (hP _ d.2) h1 h2
theorem a9E (hc:CmpOK P cmp lt) {l:List α} (hP:∀ x∈l,P x) (hl:l.length<1000000000000) :
  ∃ m,a7p l cmp=some m∧m.Perm l∧m.length=l.length∧SR lt 0 l.length m:=by
 unfold a7p
 by_cases h:l=[]
 ·subst h
  exact ⟨[],by simp,List.Perm.refl _,rfl,fun i j x y _ _ h=>by simp at h⟩
 ·rw [dif_neg h,if_pos (hc.ok hP hl)]
  obtain ⟨h1,h2⟩:=b1A h (hc.ok hP hl) lt (fun a b=>(hc.ltX_eq hP a b).2)
  exact ⟨_,rfl,h1,h1.length_eq,h2⟩
theorem sortM_eq (hc:CmpOK P cmp lt) {l:List α} (hP:∀ x∈l,P x) (hT:∀ x y,P x→P y→lt x y=false→lt y x=false→x=y):b3d l cmp=a7p l cmp:=by
 unfold b3d
 refine if_pos fun a b h1 h2=>?_
 rw [(hc.ltX_eq hP _ _).2] at h1 h2
 exact hT _ _ (hP _ a.2) (hP _ b.2) h1 h2
end
end Go.Proofs.YteanekphncdhiaaGreat.Sh
namespace Go.Proofs.YteanekphncdhiaaGreat.Sh
open Go
set_option linter.unusedVariables false
set_option linter.unusedSimpArgs false
noncomputable def a4S {α:Type} (sv1662:((List α) × Int × Int)) (sv1912:(List α)) (k1913:Int):Option (((List α) × Int × Int) ⊕ ((List α) × Int)):=
 (some (w64 (sv1662.2.2+1))).bind fun k2_1915=>
 some (Sum.inl (sv1912,k1913,k2_1915))
noncomputable def a5y {α:Type} (eq:α→α→Option Bool) (sv628:Int) (l1661:(List α)) (sv1662:((List α) × Int × Int)):Option (((List α) × Int × Int) ⊕ ((List α) × Int)):=
 (if (decide (sv1662.2.2<(l1661.length:Int)))=true then
  (ixV sv1662.1 sv628 l1661.length sv1662.2.2).bind fun x1875=>
  (ixV sv1662.1 sv628 l1661.length (w64 (sv1662.2.2 - 1))).bind fun x1883=>
  (eq x1875 x1883).bind fun c=>
  (if (!c)=true then
   (ixV sv1662.1 sv628 l1661.length sv1662.2.2).bind fun x1924=>
   (ix sv1662.1 sv1662.2.1).bind fun x1927=>
   (a3Q sv1662.1 sv1662.2.1 x1924).bind fun l1935=>
   (some (w64 (sv1662.2.1+1))).bind fun k1940=>
   a4S sv1662 l1935 k1940
  else
   a4S sv1662 sv1662.1 sv1662.2.1)
 else
  some (Sum.inr (sv1662.1,sv1662.2.1)))
noncomputable def a6e {α:Type} (z:α) (eq:α→α→Option Bool) (s1:(List α)) (sv628:Int):Option (Int ⊕ (List α)):=
 (if (decide (sv628<(s1.length:Int)))=true then
  (ix s1 sv628).bind fun x1456=>
  (ix s1 (w64 (sv628 - 1))).bind fun x1469=>
  (eq x1456 x1469).bind fun c=>
  (if c=true then
   (D8 s1 sv628 (s1.length:Int)).bind fun l1661=>
   (o5 (a5y eq sv628 l1661) (s1,sv628,1)).bind fun e1817=>
   (D8 e1817.1 e1817.2 (e1817.1.length:Int)).bind fun l1946=>
   (some (I1 e1817.1 e1817.2 (e1817.1.length:Int) (List.replicate l1946.length z))).bind fun l1947=>
   (D8 l1947 0 e1817.2).bind fun l1956=>
   some (Sum.inr l1956)
  else
   (some (w64 (sv628+1))).bind fun k1960=>
   some (Sum.inl k1960))
 else
  Option.map Sum.inr (some s1))
noncomputable def a7x {α:Type} (z:α) (eq:α→α→Option Bool) (s1:(List α)):Option (List α):=
 (if (decide ((s1.length:Int)<2))=true then
  some s1
 else
  o5 (a6e z eq s1) (1))
section
variable {α:Type}
def cpN (eq:α→α→Bool) (s:List α):Nat→List α
 | 0=>[]
 | n+1=>cpN eq s n ++ (match s[n]? with
  | none=>[]
  | some x=>if n=0 then [x] else match s[n - 1]? with
   | none=>[]
   | some y=>if eq x y=true then [] else [x])
theorem b1Q (eq:α→α→Bool) {s:List α} {n:Nat} (h:n<s.length) (h0:0<n):cpN eq s (n+1)=cpN eq s n ++ if eq s[n] (s[n - 1]'(by omega))=true then [] else [s[n]]:=by
 show cpN eq s n ++ _=_
 rw [a1w h,a1w (show n - 1<s.length by omega)]
 simp only
 rw [if_neg (by omega)]
theorem b2C (eq:α→α→Bool) {s:List α} (h:0<s.length):cpN eq s 1=[s[0]]:=by
 show cpN eq s 0 ++ _=_
 rw [a1w h];rfl
theorem a5S {x:Int} {n:Nat} (h:x=(n:Int)) (hn:n≤9000000000000000000):w64 x=(n:Int):=by rw [h,G6 (by omega) (by omega)]
theorem b4D {z:α} {l:List α} {k n:Nat} (h:k≤l.length):D8 (I1 l (k:Int) (l.length:Int) (List.replicate n z)) 0 (k:Int)=some (l.take k):=by
 have h1:(I1 l (k:Int) (l.length:Int) (List.replicate n z)).take k=l.take k:=by
  unfold I1
  simp only [Int.toNat_natCast]
  rw [List.append_assoc,List.take_append_of_le_length (by rw [List.length_take];omega),List.take_take,Nat.min_self]
 have h2:k≤(I1 l (k:Int) (l.length:Int) (List.replicate n z)).length:=by
  unfold I1
  simp only [Int.toNat_natCast,List.length_append,List.length_take]
  omega
 have h0:=a0B (I1 l (k:Int) (l.length:Int) (List.replicate n z)) 0 k (Nat.zero_le _) h2
 rw [h1] at h0
 simpa using h0
theorem b1P (z:α) {f:α→α→Option Bool} {eq:α→α→Bool} {s:List α} (hf:∀ x∈s,∀ y∈s,f x y=some (eq x y)) (hl:s.length≤1000000):a7x z f s=some (cpN eq s s.length):=by
 unfold a7x
 by_cases h2:s.length<2
 ·rw [if_pos (decide_eq_true (by omega))]
  match s,h2 with
  | [],_=>rfl
  | [x],_=>rfl
 ·rw [if_neg (by simp;omega)]
  obtain ⟨r,er,hr⟩:=R3 (b1:=a6e z f s) (fun k q=>∃ n:Nat,q=(n:Int)∧0<n∧n≤s.length∧k+n=s.length∧cpN eq s n=s.take n) (fun r=>r=cpN eq s s.length) (by
   rintro k q ⟨n,rfl,n0,n1,hk,ht⟩
   unfold a6e
   by_cases hn:n<s.length
   ·have e1:w64 ((n:Int) - 1)=((n - 1:Nat):Int):=a5S (by omega) (by omega)
    rw [if_pos (decide_eq_true (by omega)),w9 _ _ hn,e1,w9 s (n - 1) (by omega)]
    simp only [Option.bind_some]
    rw [hf _ (List.getElem_mem hn) _ (List.getElem_mem _)]
    simp only [Option.bind_some]
    have hone:=b1Q eq hn n0
    by_cases hc:eq s[n] (s[n - 1]'(by omega))=true
    ·right
     rw [if_pos hc,List.append_nil] at hone
     rw [if_pos hc,a0B _ _ _ (by omega) (Nat.le_refl _),List.take_of_length_le (Nat.le_refl _)]
     simp only [Option.bind_some]
     have hdl:(s.drop n).length=s.length - n:=List.length_drop
     obtain ⟨w,ew,hw1,hw2,hw3⟩:=R3 (b1:=a5y f (n:Int) (s.drop n))
      (fun k q=>∃ w j:Nat,q.2.1=(w:Int)∧q.2.2=(j:Int)∧1≤j∧k+j=s.length - n∧j≤s.length - n∧w+1≤n+j∧q.1.length=s.length∧q.1.take w=cpN eq s (n+j)∧w=(cpN eq s (n+j)).length∧∀ i,n+j≤i+1→q.1[i]? = s[i]?)
      (fun r=>r.1.length=s.length∧(∃ w:Nat,r.2=(w:Int)∧w≤s.length∧r.1.take w=cpN eq s s.length)∧True) (by
       rintro k ⟨m,w',j'⟩ ⟨w,j,hw,hj,j1,hk,jl,wj,ml,mt,wl,mo⟩
       simp only at hw hj ml mt mo
       subst hw
       subst hj
       unfold a5y
       simp only
       by_cases hjl:j<s.length - n
       ·left
        have hnj:n+j<s.length:=by omega
        have m1:m[n+j]'(by omega)=s[n+j]:=by
         have:=mo (n+j) (by omega)
         rw [a1w (by omega),a1w hnj] at this
         exact Option.some.inj this
        have m2:m[n+j - 1]'(by omega)=s[n+j - 1]:=by
         have:=mo (n+j - 1) (by omega)
         rw [a1w (by omega),a1w (by omega)] at this
         exact Option.some.inj this
        have v1:ixV m (n:Int) (s.drop n).length (j:Int)=some s[n+j]:=by
         unfold ixV
         rw [if_pos (by omega),show (n:Int)+(j:Int)=((n+j:Nat):Int) by omega,w9 _ _ (by omega),m1]
        have v2:ixV m (n:Int) (s.drop n).length (w64 ((j:Int) - 1))=some s[n+j - 1]:=by
         rw [a5S (n:=j - 1) (by omega) (by omega)]
         unfold ixV
         rw [if_pos (by omega),show (n:Int)+((j - 1:Nat):Int)=((n+j - 1:Nat):Int) by omega,w9 _ _ (by omega),m2]
        rw [if_pos (decide_eq_true (by omega)),v1,v2]
        simp only [Option.bind_some]
        rw [hf _ (List.getElem_mem _) _ (List.getElem_mem _)]
        simp only [Option.bind_some]
        have hone:=b1Q eq hnj (by omega)
        by_cases hc2:eq s[n+j] (s[n+j - 1]'(by omega))=true
        ·rw [if_pos hc2,List.append_nil] at hone
         rw [if_neg (by rw [hc2];decide)]
         unfold a4S
         simp only [Option.bind_some]
         rw [a5S (n:=j+1) (by omega) (by omega)]
         refine ⟨_,k - 1,rfl,⟨w,j+1,rfl,rfl,by omega,by omega,by omega,by omega,ml,?_,?_,fun i hi=>mo i (by omega)⟩,by omega⟩
         ·simp only;rw [mt,← hone];rfl
         ·rw [wl,← hone];rfl
        ·rw [if_neg hc2] at hone
         rw [if_pos (by simpa using hc2),w9 _ _ (show w<m.length by omega)]
         simp only [Option.bind_some]
         rw [a2w _ _ _ (by omega) (by omega)]
         unfold a4S
         simp only [Option.bind_some,Int.toNat_natCast]
         rw [a5S (x:=(j:Int)+1) (n:=j+1) (by omega) (by omega),a5S (x:=(w:Int)+1) (n:=w+1) (by omega) (by omega)]
         refine ⟨_,k - 1,rfl,⟨w+1,j+1,rfl,rfl,by omega,by omega,by omega,by omega,by simpa using ml,?_,?_,fun i hi=>?_⟩,by omega⟩
         ·show (m.set w s[n+j]).take (w+1)=cpN eq s (n+(j+1))
          rw [show n+(j+1)=n+j+1 by omega,hone,← mt,C9 (by simp;omega),List.take_set_of_le (Nat.le_refl _)]
          simp
         ·rw [show n+(j+1)=n+j+1 by omega,hone,List.length_append,← wl];rfl
         ·simp only
          rw [List.getElem?_set,if_neg (by omega)]
          exact mo i (by omega)
       ·right
        rw [if_neg (by simp;omega)]
        have:n+j=s.length:=by omega
        refine ⟨_,rfl,ml,⟨w,rfl,by omega,?_⟩,trivial⟩
        simp only
        rw [mt,this]) (s.length - n - 1) (s,(n:Int),(1:Int)) ⟨n,1,rfl,rfl,by omega,by omega,by omega,by omega,rfl,by
       simp only
       rw [hone,ht],by rw [hone,ht,List.length_take];omega,fun i _=>rfl⟩
     obtain ⟨w0,hw0,hw4,hw5⟩:=hw2
     obtain ⟨mm,ww⟩:=w
     simp only at hw0 hw1 hw5
     subst hw0
     rw [ew]
     simp only [Option.bind_some]
     rw [a0B _ _ _ (by omega) (Nat.le_refl _),List.take_of_length_le (Nat.le_refl _)]
     simp only [Option.bind_some]
     rw [b4D (by omega),hw5]
     exact ⟨_,rfl,rfl⟩
    ·left
     rw [if_neg hc] at hone
     rw [if_neg hc,a5S (n:=n+1) (by omega) (by omega)]
     refine ⟨_,k - 1,rfl,⟨n+1,rfl,by omega,by omega,by omega,?_⟩,by omega⟩
     rw [hone,ht,C9 hn]
   ·right
    rw [if_neg (by simp;omega)]
    refine ⟨s,rfl,?_⟩
    rw [show n=s.length by omega,List.take_of_length_le (Nat.le_refl _)] at ht
    exact ht.symm) (s.length - 1) 1 ⟨1,rfl,by omega,by omega,by omega,by
     rw [b2C eq (by omega)]
     cases s with
     | nil=>simp at h2
     | cons a s=>rfl⟩
  rw [er,hr]
theorem a3u {c:α→α→Int} (hc:Cmp c):∀ {l m:List α},l.Pairwise (fun a b=>c a b<0)→m.Pairwise (fun a b=>c a b<0)→(∀ x,x∈l↔x∈m)→l=m
 | [],[],_,_,_=>rfl
 | [],b :: m,_,_,h=>by have:=(h b).2 List.mem_cons_self;cases this
 | a :: l,[],_,_,h=>by have:=(h a).1 List.mem_cons_self;cases this
 | a :: l,b :: m,h1,h2,h=>by
  obtain ⟨a1,l1⟩:=List.pairwise_cons.1 h1
  obtain ⟨b1,m1⟩:=List.pairwise_cons.1 h2
  have hab:a=b:=by
   rcases List.mem_cons.1 ((h a).1 List.mem_cons_self) with e | e
   ·exact e
   ·rcases List.mem_cons.1 ((h b).2 List.mem_cons_self) with f | f
    ·exact f.symm
    ·have:=b1 a e
     have:=a1 b f
     have:=hc.anti a b
     omega
  subst hab
  have hr:=hc.refl a
  congr 1
  refine a3u hc l1 m1 fun x=>⟨fun hx=>?_,fun hx=>?_⟩
  ·rcases List.mem_cons.1 ((h x).1 (List.mem_cons_of_mem _ hx)) with e | e
   ·subst e;have:=a1 x hx;omega
   ·exact e
  ·rcases List.mem_cons.1 ((h x).2 (List.mem_cons_of_mem _ hx)) with e | e
   ·subst e;have:=b1 x hx;omega
   ·exact e
def a6V (c:α→α→Int) (x:α):List α→List α
 | []=>[x]
 | y :: r=>if c x y<0 then x :: y :: r else if c x y=0 then y :: r else y :: a6V c x r
def a7r (c:α→α→Int) (l:List α):List α:=l.foldr (a6V c) []
theorem a4Z {c:α→α→Int} (he:∀ x y,c x y=0→x=y) {x z:α}:∀ {l:List α},z∈a6V c x l↔z=x∨z∈l
 | []=>by simp [a6V]
 | y :: r=>by
  unfold a6V
  split
  ·rw [List.mem_cons]
  ·split
   ·next h=>
     rw [he _ _ h,List.mem_cons]
     constructor
     ·exact fun h=>.inr h
     ·rintro (h | h)
      ·exact .inl h
      ·exact h
   ·rw [List.mem_cons,a4Z he,List.mem_cons]
    constructor
    ·rintro (h | h | h)
     ·exact .inr (.inl h)
     ·exact .inl h
     ·exact .inr (.inr h)
    ·rintro (h | h | h)
     ·exact .inr (.inl h)
     ·exact .inl h
     ·exact .inr (.inr h)
theorem a7A {c:α→α→Int} (hc:Cmp c) (he:∀ x y,c x y=0→x=y) {x:α}:∀ {l:List α},l.Pairwise (fun a b=>c a b<0)→(a6V c x l).Pairwise (fun a b=>c a b<0)
 | [],_=>List.pairwise_singleton _ _
 | y :: r,h=>by
  obtain ⟨h1,h2⟩:=List.pairwise_cons.1 h
  unfold a6V
  split
  ·next hx=>
   refine List.pairwise_cons.2 ⟨fun z hz=>?_,h⟩
   rcases List.mem_cons.1 hz with e | e
   ·subst e;exact hx
   ·exact hc.trans _ _ _ hx (h1 z e)
  ·split
   ·exact h
   ·next g1 g2=>
    refine List.pairwise_cons.2 ⟨fun z hz=>?_,a7A hc he h2⟩
    rcases (a4Z he).1 hz with e | e
    ·subst e;have:=hc.anti y z;omega
    ·exact h1 z e
theorem a5N {c:α→α→Int} (he:∀ x y,c x y=0→x=y) {z:α}:∀ {l:List α},z∈a7r c l↔z∈l
 | []=>Iff.rfl
 | y :: r=>by
  show z∈a6V c y (a7r c r)↔_
  rw [a4Z he,a5N he,List.mem_cons]
theorem a7H {c:α→α→Int} (hc:Cmp c) (he:∀ x y,c x y=0→x=y):∀ (l:List α),(a7r c l).Pairwise (fun a b=>c a b<0)
 | []=>List.Pairwise.nil
 | y :: r=>a7A hc he (a7H hc he r)
theorem b2L (c:α→α→Int) (x:α):∀ (l:List α),(a6V c x l).length≤l.length+1
 | []=>Nat.le_refl _
 | y :: r=>by
  unfold a6V
  split
  ·exact Nat.le_refl _
  ·split
   ·exact Nat.le_succ _
   ·have:=b2L c x r
    simp only [List.length_cons];omega
theorem b0O (c:α→α→Int):∀ (l:List α),(a7r c l).length≤l.length
 | []=>Nat.le_refl _
 | y :: r=>by
  have h1:=b2L c y (a7r c r)
  have h2:=b0O c r
  show (a6V c y (a7r c r)).length≤_
  simp only [List.length_cons];omega
theorem Cmp.ok {c:α→α→Int} (hc:Cmp c) {f:α→α→Option Int} {P:α→Prop} (hf:∀ x y,P x→P y→f x y=some (c x y)):CmpOK P f (fun x y=>decide (c x y<0)):=by
 refine ⟨fun x y h1 h2=>⟨_,hf x y h1 h2,rfl⟩,fun x _=>by have:=hc.refl x;simp;omega,fun x y z _ _ _ h1 h2=>?_,fun x y z _ _ _ h1 h2=>?_⟩
 ·simp only [decide_eq_true_eq] at *
  exact hc.trans x y z h1 h2
 ·simp only [decide_eq_false_iff_not] at *
  intro h
  have a1:=hc.anti x y
  have a2:=hc.anti y z
  have a3:=hc.anti x z
  by_cases e:c y x=0
  ·have:=hc.eq0 y x e z
   omega
  ·exact h2 (hc.trans y x z (by omega) h)
theorem SR.cpw {c:α→α→Int} (hc:Cmp c) {l:List α} (h:SR (fun x y=>decide (c x y<0)) 0 l.length l):l.Pairwise (fun s t=>c s t≤0):=by
 rw [List.pairwise_iff_getElem]
 intro i j hi hj hij
 have:=h i j _ _ (Nat.zero_le _) hij hj (a1w hi) (a1w hj)
 simp only [decide_eq_false_iff_not] at this
 have:=hc.anti l[i] l[j]
 omega
theorem b4b {c:α→α→Int} (hc:Cmp c) (he:∀ x y,c x y=0→x=y) {eq:α→α→Bool} {s:List α} (hq:∀ x∈s,∀ y∈s,(eq x y=true↔x=y)) (hs:s.Pairwise (fun s t=>c s t≤0)) :
  ∀ n,n≤s.length→(cpN eq s n).Pairwise (fun a b=>c a b<0)∧∀ x,x∈cpN eq s n↔x∈s.take n
 | 0,_=>⟨List.Pairwise.nil,fun x=>by simp [cpN]⟩
 | n+1,h=>by
  obtain ⟨h1,h2⟩:=b4b hc he hq hs n (by omega)
  have hn:n<s.length:=by omega
  rcases Nat.eq_zero_or_pos n with h0 | h0
  ·subst h0
   rw [b2C eq (by omega)]
   refine ⟨List.pairwise_singleton _ _,fun x=>?_⟩
   rw [C9 hn];simp
  ·rw [b1Q eq hn h0,C9 hn]
   have hp:=List.pairwise_iff_getElem.1 hs
   have hne:=hp (n - 1) n (by omega) hn (by omega)
   by_cases hc':eq s[n] (s[n - 1]'(by omega))=true
   ·have hx:=(hq _ (List.getElem_mem _) _ (List.getElem_mem _)).1 hc'
    rw [if_pos hc',List.append_nil]
    refine ⟨h1,fun x=>?_⟩
    rw [List.mem_append,h2]
    refine ⟨fun h=>.inl h,fun h=>?_⟩
    rcases h with h | h
    ·exact h
    ·rcases List.mem_singleton.1 h with rfl
     rw [hx]
     obtain ⟨q,hq'⟩:∃ q,n=q+1:=⟨n - 1,by omega⟩
     subst hq'
     simp only [Nat.add_sub_cancel]
     rw [C9 (xs:=s) (i:=q) (by omega)]
     exact List.mem_append_right _ List.mem_cons_self
   ·rw [if_neg hc']
    refine ⟨List.pairwise_append.2 ⟨h1,List.pairwise_singleton _ _,fun a ha b hb=>?_⟩,fun x=>by rw [List.mem_append,h2,List.mem_append]⟩
    rcases List.mem_singleton.1 hb with rfl
    have hlt:c (s[n - 1]'(by omega)) s[n]<0:=by
     rcases Int.lt_or_eq_of_le hne with h | h
     ·exact h
     ·exact absurd ((hq _ (List.getElem_mem _) _ (List.getElem_mem _)).2 (he _ _ h).symm) hc'
    obtain ⟨i,hi⟩:=List.mem_iff_getElem?.1 ((h2 a).1 ha)
    rw [List.getElem?_take] at hi
    split at hi
    ·next hin=>
     obtain ⟨hil,hi'⟩:=a7w hi
     by_cases e:i=n - 1
     ·subst e;rw [← hi'];exact hlt
     ·have h3:=hp i (n - 1) hil (by omega) (by omega)
      rw [hi'] at h3
      rcases Int.lt_or_eq_of_le h3 with h | h
      ·exact hc.trans _ _ _ h hlt
      ·rw [he _ _ h];exact hlt
    ·cases hi
theorem b2m {c:α→α→Int} (hc:Cmp c) (he:∀ x y,c x y=0→x=y) {f:α→α→Option Int} {g:α→α→Option Bool} {eq:α→α→Bool} (z:α) {l:List α}
  {P:α→Prop} (hP:∀ x∈l,P x) (hf:∀ x y,P x→P y→f x y=some (c x y)) (hg:∀ x y,P x→P y→g x y=some (eq x y)) (hq:∀ x y,P x→P y→(eq x y=true↔x=y)) (hl:l.length<1000000) :
  ∃ m,a7p l f=some m∧a7x z g m=some (a7r c l):=by
 obtain ⟨m,em,hp,hn,hs⟩:=a9E (hc.ok hf) hP (by omega)
 have hPm:∀ x∈m,P x:=fun x hx=>hP x (hp.mem_iff.1 hx)
 refine ⟨m,em,?_⟩
 rw [b1P z (fun x hx y hy=>hg x y (hPm x hx) (hPm y hy)) (by omega)]
 rw [← hn] at hs
 obtain ⟨h1,h2⟩:=b4b hc he (fun x hx y hy=>hq x y (hPm x hx) (hPm y hy)) (hs.cpw hc) m.length (Nat.le_refl _)
 rw [a3u hc h1 (a7H hc he l) fun x=>?_]
 rw [h2,List.take_of_length_le (Nat.le_refl _),a5N he,hp.mem_iff]
end
end Go.Proofs.YteanekphncdhiaaGreat.Sh
namespace Go.Proofs.YteanekphncdhiaaGreat.Sh
open Go
set_option linter.unusedVariables false
set_option linter.unusedSimpArgs false
def delG {α:Type} (z:α) (s1:List α) (i6 j7:Int):Option (List α):=
 (D8 s1 i6 j7).bind fun l12=>
 (if (i6 == j7)=true then
  some s1
 else
  (some (s1.length:Int)).bind fun oldlen16=>
  (D8 s1 0 i6).bind fun l19=>
  (D8 s1 j7 (s1.length:Int)).bind fun l22=>
  (some (l19 ++ l22 ++ s1.drop (l19 ++ l22).length)).bind fun l27=>
  (D8 l27 ((l19 ++ l22).length:Int) oldlen16).bind fun l31=>
  (some (I1 l27 ((l19 ++ l22).length:Int) oldlen16 (List.replicate l31.length z))).bind fun l34=>
  (D8 l34 0 ((l19 ++ l22).length:Int)).bind fun l39=>
  some l39)
theorem a7y {α:Type} {s:List α} {i j:Int} (z:α) (h0:0≤i) (h1:i≤j) (h2:j≤s.length):delG z s i j=some (s.take i.toNat ++ s.drop j.toNat):=by
 unfold delG
 have e1:D8 s i j=some ((s.take j.toNat).drop i.toNat):=by unfold D8;rw [if_pos ⟨h0,h1,h2⟩]
 rw [e1,Option.bind_some]
 by_cases hij:i=j
 ·subst hij
  rw [if_pos (by simp),List.take_append_drop]
 ·rw [if_neg (by simpa using hij)]
  have e2:D8 s 0 i=some (s.take i.toNat):=by unfold D8;rw [if_pos ⟨Int.le_refl _,h0,by omega⟩];simp
  have e3:D8 s j (s.length:Int)=some (s.drop j.toNat):=by unfold D8;rw [if_pos ⟨by omega,h2,Int.le_refl _⟩];simp
  simp only [Option.bind_some,e2,e3]
  obtain ⟨A,hA⟩:∃ A,A=s.take i.toNat ++ s.drop j.toNat:=⟨_,rfl⟩
  have hAl:A.length≤s.length:=by rw [hA];simp;omega
  rw [← hA]
  have hBl:(A ++ s.drop A.length).length=s.length:=by simp;omega
  have e4:D8 (A ++ s.drop A.length) (A.length:Int) (s.length:Int)=some (s.drop A.length):=by
   unfold D8;rw [if_pos ⟨by omega,by omega,by omega⟩]
   simp only [Int.toNat_natCast]
   rw [List.take_of_length_le (by omega),List.drop_left]
  rw [e4,Option.bind_some]
  have e5:(I1 (A ++ s.drop A.length) (A.length:Int) (s.length:Int) (List.replicate (s.drop A.length).length z)).take A.length=A:=by
   unfold I1
   simp only [Int.toNat_natCast]
   rw [List.take_append_of_le_length (by simp),List.take_append_of_le_length (by simp),List.take_take,Nat.min_self,List.take_left]
  have e6:A.length≤(I1 (A ++ s.drop A.length) (A.length:Int) (s.length:Int) (List.replicate (s.drop A.length).length z)).length:=by
   unfold I1;simp
  unfold D8
  rw [if_pos ⟨Int.le_refl _,by omega,by omega⟩]
  simp only [Option.bind_some,Int.toNat_zero,List.drop_zero,Int.toNat_natCast,e5]
theorem delG_t {α:Type} {s r:List α} {i j:Int} {z:α} (h:delG z s i j=some r):0≤i∧i≤j∧j≤s.length∧r=s.take i.toNat ++ s.drop j.toNat:=by
 have h':=h
 unfold delG at h'
 obtain ⟨_,e1,_⟩:=O6 h'
 obtain ⟨⟨h0,h1,h2⟩,_⟩:=a0c e1
 rw [a7y z h0 h1 h2] at h
 exact ⟨h0,h1,h2,(Option.some.inj h).symm⟩
end Go.Proofs.YteanekphncdhiaaGreat.Sh
namespace Go.Proofs.YteanekphncdhiaaGreat.Sh
open Go
set_option linter.unusedVariables false
set_option linter.unusedSimpArgs false
section
variable {α:Type}
theorem insC_at {c:α→α→Int} (hc:Cmp c) (he:∀ x y,c x y=0→x=y) {out:List α} {x:α} {k:Nat} (hp:out.Pairwise (fun a b=>c a b<0)) (hk:k≤out.length)
  (h1:∀ j (h:j<out.length),k≤j→0<c out[j] x) (h2:k=0∨∃ h:k - 1<out.length,0<k∧c out[k - 1] x≤0) :
  ((∃ h:k - 1<out.length,0<k∧out[k - 1]=x)→a6V c x out=out)∧((k=0∨∃ h:k - 1<out.length,0<k∧out[k - 1]≠x)→a6V c x out=out.take k ++ x :: out.drop k):=by
 refine ⟨fun ⟨h,_,e⟩=>?_,fun hne=>?_⟩
 ·refine a3u hc (a7A hc he hp) hp fun z=>?_
  rw [a4Z he]
  refine ⟨fun h=>?_,fun h=>.inr h⟩
  rcases h with h | h
  ·rw [h,← e];exact List.getElem_mem _
  ·exact h
 ·have hpp:=List.pairwise_iff_getElem.1 hp
  refine a3u hc (a7A hc he hp) ?_ fun z=>?_
  ·rw [List.pairwise_append]
   refine ⟨hp.sublist (List.take_sublist _ _),List.pairwise_cons.2 ⟨fun b hb=>?_,hp.sublist (List.drop_sublist _ _)⟩,fun a ha b hb=>?_⟩
   ·obtain ⟨j,hj⟩:=List.mem_iff_getElem?.1 hb
    rw [List.getElem?_drop] at hj
    obtain ⟨hjl,hj'⟩:=a7w hj
    have:=h1 (k+j) hjl (by omega)
    rw [hj'] at this
    have:=hc.anti b x
    omega
   ·have hax:c a x<0:=by
     obtain ⟨j,hj⟩:=List.mem_iff_getElem?.1 ha
     rw [List.getElem?_take] at hj
     split at hj
     ·next hjk=>
      obtain ⟨hjl,hj'⟩:=a7w hj
      rcases h2 with h2 | ⟨g1,g2,g3⟩
      ·omega
      ·have hlt:c (out[k - 1]) x<0:=by
        rcases Int.lt_or_eq_of_le g3 with h | h
        ·exact h
        ·rcases hne with hne | ⟨_,_,hne⟩
         ·omega
         ·exact absurd (he _ _ h) hne
       by_cases e:j=k - 1
       ·subst e;rw [← hj'];exact hlt
       ·have:=hpp j (k - 1) hjl g1 (by omega)
        rw [hj'] at this
        exact hc.trans _ _ _ this hlt
     ·cases hj
    rcases List.mem_cons.1 hb with e | hb
    ·rw [e];exact hax
    ·obtain ⟨i,hi⟩:=List.mem_iff_getElem?.1 ha
     obtain ⟨j,hj⟩:=List.mem_iff_getElem?.1 hb
     rw [List.getElem?_take] at hi
     rw [List.getElem?_drop] at hj
     split at hi
     ·obtain ⟨hil,hi'⟩:=a7w hi
      obtain ⟨hjl,hj'⟩:=a7w hj
      have:=hpp i (k+j) hil hjl (by omega)
      rw [hi',hj'] at this
      exact this
     ·cases hi
  ·rw [a4Z he,List.mem_append,List.mem_cons]
   have:z∈out↔z∈out.take k∨z∈out.drop k:=by rw [← List.mem_append,List.take_append_drop]
   rw [this]
   constructor
   ·rintro (h | h | h)
    ·exact .inr (.inl h)
    ·exact .inl h
    ·exact .inr (.inr h)
   ·rintro (h | h | h)
    ·exact .inr (.inl h)
    ·exact .inl h
    ·exact .inr (.inr h)
theorem b0p {s:List α} {x:α} {e:Nat} (he:e≤s.length) (hl:s.length≤100000) :
  D8 (s ++ [x]) ((e+1:Nat):Int) ((s ++ [x]).length:Int)=some (s.drop (e+1) ++ [x].drop (e+1 - s.length))∧D8 (s ++ [x]) (e:Int) ((s ++ [x]).length:Int)=some (s.drop e ++ [x]) ∧
  ∃ q,q=I1 (s ++ [x]) ((e+1:Nat):Int) ((s ++ [x]).length:Int) (s.drop e ++ [x])∧e<q.length∧q.set e x=s.take e ++ x :: s.drop e:=by
 have hlen:(s ++ [x]).length=s.length+1:=by simp
 refine ⟨?_,?_,_,rfl,?_,?_⟩
 ·rw [a0B _ _ _ (by omega) (Nat.le_refl _),List.take_of_length_le (Nat.le_refl _),List.drop_append]
 ·rw [a0B _ _ _ (by omega) (Nat.le_refl _),List.take_of_length_le (Nat.le_refl _),List.drop_append_of_le_length he]
 ·unfold I1
  simp only [Int.toNat_natCast,List.length_append,List.length_take,List.length_drop,List.length_cons,List.length_nil]
  omega
 ·unfold I1
  simp only [Int.toNat_natCast]
  have e1:(s.drop e ++ [x]).take ((s ++ [x]).length - (e+1))=s.drop e:=by
   rw [hlen,List.take_append_of_le_length (by rw [List.length_drop];omega),List.take_of_length_le (by rw [List.length_drop];omega)]
  have e2:(s ++ [x]).drop (e+1+min (s.drop e ++ [x]).length ((s ++ [x]).length - (e+1)))=[]:=by
   apply List.drop_eq_nil_of_le
   simp only [List.length_append,List.length_drop,List.length_cons,List.length_nil]
   omega
  rw [e1,e2,List.append_nil]
  have e3:(s ++ [x]).take (e+1)=s.take e ++ [(s ++ [x])[e]'(by omega)]:=by
   rw [C9 (by omega),List.take_append_of_le_length he]
  rw [e3,List.append_assoc,List.set_append,if_neg (by rw [List.length_take];omega)]
  have:e - (s.take e).length=0:=by rw [List.length_take];omega
  rw [this]
  rfl
theorem b4Y {c:α→α→Int} (hc:Cmp c) (he:∀ x y,c x y=0→x=y) (l:List α) (x:α):a7r c (l ++ [x])=a6V c x (a7r c l):=by
 refine a3u hc (a7H hc he _) (a7A hc he (a7H hc he l)) fun z=>?_
 rw [a5N he,a4Z he,a5N he,List.mem_append,List.mem_singleton]
 exact Or.comm
end
end Go.Proofs.YteanekphncdhiaaGreat.Sh
namespace Go.Proofs.YteanekphncdhiaaGreat.Wk
open Go Go.RowKit Go.Proofs.YteanekphncdhiaaGreat.Sh
open Go.ChangeShapes Go.WideShapes Go.ChangeAt
theorem PostW.below {w w':World} {S S':Nat→Prop} (h:PostW [] w S w' S'):Below w.heap.size w w':=
 ⟨h.os,h.tape,h.output,h.size,fun k hk=>h.keep k hk (by simp)⟩
theorem addr_off {a:Addr} (h:a.spot=none) (i:Nat):a.add i=⟨a.block,a.off+i,none⟩:=by
 obtain ⟨b,o,s⟩:=a
 simp only at h
 subst h
 unfold Addr.add
 split
 ·next h0=>subst h0;rfl
 ·rfl
end Go.Proofs.YteanekphncdhiaaGreat.Wk
namespace Go.Proofs.YteanekphncdhiaaGreat.Wk
open Go Go.RowKit Go.Proofs.YteanekphncdhiaaGreat.Sh
open Go.ChangeShapes Go.WideShapes Go.ChangeAt
set_option linter.unusedVariables false
end Go.Proofs.YteanekphncdhiaaGreat.Wk
namespace Go.Proofs.YteanekphncdhiaaGreat.Wk
open Go Go.RowKit Go.Proofs.YteanekphncdhiaaGreat.Sh
open Go.ChangeShapes Go.WideShapes Go.ChangeAt
set_option linter.unusedVariables false
def Wts {H:Type} (P:Program) (t:TypeId) (d:DataW H):Prop:=∀ n∈d.weights P t,n≤reachBytes
theorem b4w {H:Type} {P:Program} {e:TypeId}:∀ {l:List (DataW H)},(∀ n∈DataW.weightsAll P e l,n≤reachBytes)→∀ d∈l,Wts P e d
 | [],_,_,h=>by cases h
 | a :: l,h,d,hd=>by
  simp only [DataW.weightsAll,List.mem_append] at h
  rcases List.mem_cons.1 hd with rfl | hd
  ·exact fun n hn=>h n (.inl hn)
  ·exact b4w (fun n hn=>h n (.inr hn)) d hd
theorem wts_get {H:Type} {P:Program} {e:TypeId} {xs:List (DataW H × List MemPlace)} (h:∀ n∈DataW.weightsAll P e (xs.map (·.1)),n≤reachBytes) {i:Nat} {y:DataW H × List MemPlace} (hy:xs[i]? = some y):Wts P e y.1:=
 b4w h y.1 (List.mem_map.2 ⟨y,List.mem_of_getElem? hy,rfl⟩)
def OpnT (P:Program) (W:World) (t:TypeId) (α:Type) [Enc α] (G:α→Prop):Prop:=
 ∀ {H:Type} {enc:TypeId × Value→H} {fuel:Nat} {cs:List Value} {x:DataW H × List MemPlace},DataW.trod enc P W 0 (fun _=>true) true fuel t cs=some x→Wts P t x.1→∃ d:α,Enc.rd (fun b=>b<W.heap.size) W cs d∧G d
section
variable {P:Program} {W:World} {t:TypeId}
theorem opn_int (ht:P.underlying t=some (.int .i64)):OpnT P W t Int (fun n=>-9223372036854775808≤n∧n≤9223372036854775807):=fun h _=>by
 obtain ⟨n,rfl,_,hw⟩:=DataW.trod_int ht h
 exact ⟨n,⟨_,rfl,rfl⟩,by simpa [Lit.wf,IntKind.min,IntKind.max,IntKind.signed,IntKind.bits] using hw⟩
theorem OpnT.leaf {α:Type} [Leaf α] {G:α→Prop} (h:OpnT P W t α G) {H:Type} {enc:TypeId × Value→H} {fuel:Nat} {c:Value} {x:DataW H × List MemPlace} (hx:DataW.trod enc P W 0 (fun _=>true) true fuel t [c]=some x) (hz:Wts P t x.1) :
  ∃ d:α,Leaf.rd1 (fun b=>b<W.heap.size) W c d∧G d:=by
 obtain ⟨d,⟨v,hv,hr⟩,hg⟩:=h hx hz
 simp only [List.cons.injEq,and_true] at hv
 subst hv
 exact ⟨d,hr,hg⟩
theorem b3X {a:Addr} {v:Value} (h:W.cell? a=some v):a.block<W.heap.size∧a.spot=none:=by
 unfold World.cell? at h
 cases hh:W.heap[a.block]? with
 | none=>rw [hh] at h;cases h
 | some o=>
  refine ⟨(Array.getElem?_eq_some_iff.1 hh).1,?_⟩
  rw [hh] at h
  cases o <;> simp at h
  exact h.1
theorem b4N {e:TypeId} {α:Type} [Enc α] {G:α→Prop} (ht:P.underlying t=some (.slice e)) (hsz:P.cellsOf e=Enc.sz α) (hpos:0<Enc.sz α) (hby:Nat.ble 1 (P.bytesOf e)=true) (he:OpnT P W e α G):OpnT P W t (List α) (fun l=>(l.length:Int)≤140737488355328∧∀ d∈l,G d):=fun {H enc fuel cs x} h hz=>by
 rcases DataW.trod_slice ht h with ⟨rfl,_⟩ | ⟨a,len,cap,elems,rest,n,_,rfl,hxe,_,hl,_,hlen,hel,_,_⟩
 ·exact ⟨[],⟨_,rfl,none,0,0,rfl,rfl,Nat.le_refl _,fun _=>rfl,fun _ h=>(by cases h)⟩,by simp,fun d h=>(by cases h)⟩
 ·
  have hz0:Wts P t (DataW.slice (elems.map (·.1)) (rest.map (·.1))):=by rw [hxe] at hz;exact hz
  unfold Wts at hz0
  simp only [DataW.weights,ht,List.mem_cons,List.mem_append] at hz0
  have hcap:=hz0 _ (.inl rfl)
  have hza:∀ n∈DataW.weightsAll P e (elems.map (·.1)),n≤reachBytes:=fun n hn=>hz0 n (.inr (.inl hn))
  have hlen47:(len:Int)≤140737488355328:=by
   have h1:=Nat.le_of_ble_eq_true hby
   have h2:elems.length * 1≤(elems.length+rest.length) * P.bytesOf e:=Nat.mul_le_mul (Nat.le_add_right _ _) h1
   simp only [List.length_map] at hcap
   have h3:=reachBytes_lt
   omega
  have hsp0:0<len→a.spot=none:=by
   intro hi
   have h1:=hel 0 hi
   have hi2:0<elems.length:=by omega
   rw [List.getElem?_eq_getElem hi2,hsz,Option.bind_eq_some_iff] at h1
   obtain ⟨cs,hcs,hy⟩:=h1
   obtain ⟨k1,k2,k3⟩:=World.cells?_some hcs
   have h0:=k3 0 hpos
   have hl0:0<cs.length:=by rw [k2];exact hpos
   rw [List.getElem?_eq_getElem hl0] at h0
   have h2:=(b3X h0).2
   simpa [Addr.add] using h2
  have each:∀ i,i<len→∃ (d:α) (cs:List Value),a1f W a.block (a.off+i * Enc.sz α) cs∧Enc.rd (fun b=>b<W.heap.size) W cs d∧G d∧a.spot=none∧a.block<W.heap.size:=by
   intro i hi
   have h1:=hel i hi
   have hi2:i<elems.length:=by omega
   rw [List.getElem?_eq_getElem hi2,hsz,Option.bind_eq_some_iff] at h1
   obtain ⟨cs,hcs,hy⟩:=h1
   obtain ⟨d,hd,hg⟩:=he hy (wts_get hza (List.getElem?_eq_getElem hi2))
   obtain ⟨k1,k2,k3⟩:=World.cells?_some hcs
   have h0:=k3 0 hpos
   have hl0:0<cs.length:=by rw [k2];exact hpos
   rw [List.getElem?_eq_getElem hl0] at h0
   obtain ⟨q1,q2⟩:=b3X h0
   have hsp:a.spot=none:=hsp0 (by omega)
   have hbl:a.block<W.heap.size:=by rw [block_add,block_add] at q1;exact q1
   refine ⟨d,cs,fun j v hv=>?_,hd,hg,hsp,hbl⟩
   have hjl:j<cs.length:=(List.getElem?_eq_some_iff.1 hv).1
   have h2:=k3 j (by omega)
   rw [hv,addr_off hsp,addr_add] at h2
   exact h2
  obtain ⟨l,hll,hl2⟩:∃ l:List α,l.length=len∧∀ i (hi:i<l.length),∃ cs,a1f W a.block (a.off+i * Enc.sz α) cs∧Enc.rd (fun b=>b<W.heap.size) W cs l[i]∧G l[i]:=by
   have key:∀ m,m≤len→∃ l:List α,l.length=m∧∀ i (hi:i<l.length),∃ cs,a1f W a.block (a.off+i * Enc.sz α) cs∧Enc.rd (fun b=>b<W.heap.size) W cs l[i]∧G l[i]:=by
    intro m
    induction m with
    | zero=>exact fun _=>⟨[],rfl,fun i hi=>absurd hi (by simp)⟩
    | succ m ih=>
     intro hm
     obtain ⟨l,h1,h2⟩:=ih (by omega)
     obtain ⟨d,cs,k1,k2,k3,_⟩:=each m (by omega)
     refine ⟨l ++ [d],by simp [h1],fun i hi=>?_⟩
     by_cases hil:i<l.length
     ·obtain ⟨cs',q⟩:=h2 i hil
      refine ⟨cs',?_⟩
      rw [List.getElem_append_left hil]
      exact q
     ·have:i=m:=by simp at hi;omega
      subst this
      refine ⟨cs,k1,?_⟩
      have e:(l ++ [d])[i]=d:=by simp [← h1]
      rw [e]
      exact ⟨k2,k3⟩
   exact key len (Nat.le_refl _)
  refine ⟨l,⟨_,rfl,some a,len,cap,rfl,hll.symm,hl,fun h=>(by cases h),fun a' ha'=>?_⟩,by omega,fun d hd=>?_⟩
  ·cases ha'
   refine ⟨fun h0=>?_,fun h0=>?_,fun i hi=>?_⟩
   ·obtain ⟨_,_,_,_,_,q,_⟩:=each 0 h0;exact q
   ·obtain ⟨_,_,_,_,_,_,q⟩:=each 0 h0;exact q
   ·obtain ⟨cs,k1,k2,_⟩:=hl2 i hi
    exact ⟨cs,k1,k2⟩
  ·obtain ⟨i,hi,rfl⟩:=List.getElem_of_mem hd
   obtain ⟨_,_,_,q⟩:=hl2 i hi
   exact q
end
end Go.Proofs.YteanekphncdhiaaGreat.Wk

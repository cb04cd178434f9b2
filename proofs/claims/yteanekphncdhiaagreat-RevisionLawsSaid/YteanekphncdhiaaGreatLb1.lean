/- The plain law: what the plain programs compute, put together in one text. -/
import Derived.Test.YteanekphncdhiaaGreatLa1
import Derived.Sort.AssemblyPlain
import Derived.Lib.BitFns
import Derived.Shelf.SlSortCmp.NoneTotal
namespace Go.Proofs.YteanekphncdhiaaGreat.Sh
open Go
section
variable {α:Type}
def cfX (x:List α) (cmp:α→α→Option Int) (a b:{y // y∈x}):Int:=(cmp a.1 b.1).getD 0
def ltX (x:List α) (cmp:α→α→Option Int) (a b:{y // y∈x}):Bool:=decide (cfX x cmp a b<0)
structure SortOK (x:List α) (cmp:α→α→Option Int):Prop where
 run:∀ a b:{y // y∈x},cmp a.1 b.1=some (cfX x cmp a b)
 ord:Go.Sort.SWO (ltX x cmp)
 len:x.length<1000000000000
def pdqI (x:List α) (cmp:α→α→Option Int) [Inhabited {y // y∈x}]:Array {y // y∈x}:=
 Go.Sort.pdq (ltX x cmp) x.attach.toArray 0 x.attach.toArray.size (Lib.bitLen x.attach.toArray.size) true true
def pdqX (x:List α) (cmp:α→α→Option Int) (h:x≠[]):List α:=(@pdqI α x cmp ⟨⟨x.head h,List.head_mem h⟩⟩).toList.map (·.1)
open Classical in
noncomputable def a7p (x:List α) (cmp:α→α→Option Int):Option (List α):=
 if h:x=[] then some [] else if SortOK x cmp then some (pdqX x cmp h) else none
def SortTot (x:List α) (cmp:α→α→Option Int):Prop:=∀ a b:{y // y∈x},ltX x cmp a b=false→ltX x cmp b a=false→a.1=b.1
open Classical in
noncomputable def b3d (x:List α) (cmp:α→α→Option Int):Option (List α):=
 if SortTot x cmp then a7p x cmp else none
def SR (lt:α→α→Bool) (a b:Nat) (l:List α):Prop:=∀ i j x y,a≤i→i<j→j<b→l[i]? = some x→l[j]? = some y→lt y x=false
theorem a1w {l:List α} {i:Nat} (h:i<l.length):l[i]? = some l[i]:=List.getElem?_eq_getElem h
theorem a7w {l:List α} {i:Nat} {x:α} (h:l[i]? = some x):∃ hi:i<l.length,l[i]=x:=List.getElem?_eq_some_iff.1 h
theorem b4P {cmp:α→α→Option Int} {x:List α} [Inhabited {y // y∈x}] (ho:SortOK x cmp) (lt:α→α→Bool) (hlt:∀ a b:{y // y∈x},ltX x cmp a b=lt a.1 b.1):((pdqI x cmp).toList.map (·.1)).Perm x∧SR lt 0 x.length ((pdqI x cmp).toList.map (·.1)):=by
 have hs:=Go.Sort.pdq_sorts (ltX x cmp) ho.ord x.attach.toArray 0 x.attach.toArray.size (Lib.bitLen x.attach.toArray.size) true true (Nat.zero_le _) (Nat.le_refl _) (Or.inl rfl)
 have hs:Go.Sort.PermIn 0 x.attach.toArray.size x.attach.toArray (pdqI x cmp)∧Go.Sort.SortedIn (ltX x cmp) 0 x.attach.toArray.size (pdqI x cmp):=hs
 obtain ⟨D,hD⟩:∃ D,pdqI x cmp=D:=⟨_,rfl⟩
 rw [hD] at hs ⊢
 have hsz:x.attach.toArray.size=x.length:=by simp
 obtain ⟨⟨h1,h2,h3⟩,h4⟩:=hs
 have hsz2:D.size=x.length:=h1.trans hsz
 refine ⟨?_,fun i j u v _ hij hj hu hv=>?_⟩
 ·have e1:∀ d:Array {y // y∈x},d.size=x.attach.toArray.size→d.extract 0 x.attach.toArray.size=d:=fun d hd=>by rw [← hd];simp
  rw [e1 _ h1,e1 _ rfl] at h3
  have:=h3.map (·.1)
  have e2:x.attach.toArray.toList.map (·.1)=x:=by simp
  rw [e2] at this
  exact this
 ·rw [List.getElem?_map] at hu hv
  simp only [Array.getElem?_toList] at hu hv
  have e1:=h4 i j (Nat.zero_le _) hij (by rw [hsz];exact hj)
  rw [getElem!_pos D j (by omega),getElem!_pos D i (by omega),hlt] at e1
  rw [Array.getElem?_eq_getElem (show i<D.size by omega)] at hu
  rw [Array.getElem?_eq_getElem (show j<D.size by omega)] at hv
  simp only [Option.map_some,Option.some.injEq] at hu hv
  rw [← hu,← hv]
  exact e1
theorem b1A {cmp:α→α→Option Int} {x:List α} (h:x≠[]) (ho:SortOK x cmp) (lt:α→α→Bool) (hlt:∀ a b:{y // y∈x},ltX x cmp a b=lt a.1 b.1):(pdqX x cmp h).Perm x∧SR lt 0 x.length (pdqX x cmp h):=
 @b4P α cmp x ⟨⟨x.head h,List.head_mem h⟩⟩ ho lt hlt
theorem a9P {lt:α→α→Bool}:∀ {l m:List α},l.Perm m→(∀ a∈l,∀ b∈l,lt a b=false→lt b a=false→a=b)→l.Pairwise (fun a b=>lt b a=false)→m.Pairwise (fun a b=>lt b a=false)→l=m
 | [],m,h,_,_,_=>(List.nil_perm.1 h).symm
 | a :: l,[],h,_,_,_=>by have:=h.length_eq;simp at this
 | a :: l,b :: m,h,ha,h1,h2=>by
  obtain ⟨a1,l1⟩:=List.pairwise_cons.1 h1
  obtain ⟨b1,m1⟩:=List.pairwise_cons.1 h2
  have hab:a=b:=by
   have hb:b∈a :: l:=h.mem_iff.2 List.mem_cons_self
   rcases List.mem_cons.1 (h.mem_iff.1 (List.mem_cons_self (a:=a) (l:=l))) with e | e
   ·exact e
   ·rcases List.mem_cons.1 hb with f | f
    ·exact f.symm
    ·exact ha a List.mem_cons_self b hb (b1 a e) (a1 b f)
  subst hab
  rw [a9P (List.perm_cons a |>.1 h) (fun x hx y hy=>ha x (List.mem_cons_of_mem _ hx) y (List.mem_cons_of_mem _ hy)) l1 m1]
theorem SR.pw0 {lt:α→α→Bool} {l:List α} {n:Nat} (hn:n=l.length) (h:SR lt 0 n l):l.Pairwise (fun a b=>lt b a=false):=by
 subst hn
 rw [List.pairwise_iff_getElem]
 intro i j hi hj hij
 exact h i j _ _ (Nat.zero_le _) hij hj (a1w hi) (a1w hj)
end
end Go.Proofs.YteanekphncdhiaaGreat.Sh
namespace Go.Proofs.YteanekphncdhiaaGreat.Wk
open Go Go.RowKit Go.Proofs Go.Proofs.YteanekphncdhiaaGreat.Sh Go.Shelf Go.Lib Go.Sort
set_option linter.unusedSimpArgs false
set_option linter.unusedVariables false
set_option linter.unusedSectionVars false
theorem b4Q {w w':World} {S S':Nat→Prop} (h:PostW [] w S w' S'):∃ q os',w'=grow (w.drewN q) os':=by
 refine ⟨w'.drawn - w.drawn,w'.heap.extract w.heap.size w'.heap.size,?_⟩
 have hd:=h.drawn
 have hs:=h.size
 have hh:w'.heap=w.heap ++ w'.heap.extract w.heap.size w'.heap.size:=by
  apply Array.ext_getElem?
  intro i
  rw [Array.getElem?_append]
  by_cases hi:i<w.heap.size
  ·rw [if_pos hi];exact h.keep i hi (by simp)
  ·rw [if_neg hi,Array.getElem?_extract]
   by_cases hi2:i<w'.heap.size
   ·rw [if_pos (by omega),show w.heap.size+(i - w.heap.size)=i by omega]
   ·rw [if_neg (by omega)];simp;omega
 have e1:=h.os;have e2:=h.tape;have e3:=h.output
 obtain ⟨a1,a2,a3,a4,a5⟩:=w
 obtain ⟨b1,b2,b3,b4,b5⟩:=w'
 simp only at e1 e2 e3 hd hh
 subst e1 e2 e3
 simp only [grow,World.drewN,World.mk.injEq,true_and,and_true]
 exact ⟨hh,by omega⟩
section
variable {β:Type} [Inhabited β]
theorem b4d (enc:β→List Value) (k:Nat) (k0:0<k) (hk:∀ y,(enc y).length=k):∀ (l:List β) (t:Nat),t<l.length * k→(l.flatMap enc)[t]? = some ((enc l[t / k]!)[t % k]!)
 | [],t,h=>by simp at h
 | a :: l,t,h=>by
  have hm:=Nat.mod_lt t k0
  rw [List.flatMap_cons]
  by_cases ht:t<k
  ·rw [List.getElem?_append_left (by rw [hk];exact ht),Nat.div_eq_of_lt ht,Nat.mod_eq_of_lt ht]
   have:(a :: l)[0]! = a:=rfl
   rw [this,List.getElem?_eq_getElem (by rw [hk];exact ht),getElem!_pos _ _ (by rw [hk];exact ht)]
  ·obtain ⟨s,rfl⟩:∃ s,t=k+s:=⟨t - k,by omega⟩
   have hs:s<l.length * k:=by rw [List.length_cons,Nat.succ_mul] at h;omega
   rw [List.getElem?_append_right (by rw [hk];omega),hk,Nat.add_sub_cancel_left,b4d enc k k0 hk l s hs,Nat.add_div_left _ k0,Nat.add_mod_left]
   rfl
theorem a3v (enc:β→List Value) (k:Nat) (hk:∀ y,(enc y).length=k):∀ (l:List β),(l.flatMap enc).length=l.length * k
 | []=>by simp
 | a :: l=>by rw [List.flatMap_cons,List.length_append,a3v enc k hk l,hk,List.length_cons,Nat.succ_mul];omega
theorem a9L (enc:β→List Value) (k:Nat) (k0:0<k) (hk:∀ y,(enc y).length=k) (d:Array β):(flatK enc k d).toList=d.toList.flatMap enc:=by
 apply List.ext_getElem?
 intro t
 by_cases ht:t<d.size * k
 ·have hq:t / k<d.size:=Nat.div_lt_of_lt_mul (by rw [Nat.mul_comm];exact ht)
  rw [b4d enc k k0 hk d.toList t (by simpa using ht),Array.getElem?_toList,Array.getElem?_eq_getElem (by simpa using ht),← getElem!_pos,get_flatK _ _ _ _ ht,getElem!_pos d.toList _ (by simpa using hq),getElem!_pos d _ hq,Array.getElem_toList]
 ·rw [List.getElem?_eq_none (by simp;omega),List.getElem?_eq_none (by rw [a3v enc k hk];simp;omega)]
theorem b4s (enc:β→List Value) (k:Nat) (w:World) (blk m:Nat) (dk:Array β) (os:Array Obj) {b:Nat} (h1:b≠blk) (h2:b<w.heap.size):(sortWorldK enc k w blk 0 m dk os).heap[b]? = w.heap[b]?:=by
 show (w.heap.modify blk _ ++ os)[b]? = _
 rw [Array.getElem?_append_left (by simpa using h2),Array.getElem?_modify,if_neg (fun e=>h1 e.symm)]
theorem sw_at (enc:β→List Value) (k:Nat) (w:World) (blk m:Nat) (dk:Array β) (os:Array Obj) {cur:Array Value} {T:TypeId} {fz:Nat × Nat} (h:w.heap[blk]? = some (.cells cur T fz)) :
  (sortWorldK enc k w blk 0 m dk os).heap[blk]? = some (.cells (putCells id 0 (flatK enc k dk) cur) T fz):=by
 obtain ⟨h2,_⟩:=Array.getElem?_eq_some_iff.1 h
 show (w.heap.modify blk _ ++ os)[blk]? = _
 rw [Array.getElem?_append_left (by simpa using h2),Array.getElem?_modify,if_pos rfl,h]
 rfl
theorem b4t (enc:β→List Value) (k:Nat) (w:World) (blk m:Nat) (dk:Array β) (os:Array Obj):w.heap.size≤(sortWorldK enc k w blk 0 m dk os).heap.size:=by
 show _≤(w.heap.modify blk _ ++ os).size
 simp
theorem put_take (F cur:Array Value) (h:F.size≤cur.size):(putCells id 0 F cur).toList.take F.size=F.toList:=by
 apply List.ext_getElem?
 intro t
 rw [List.getElem?_take]
 by_cases ht:t<F.size
 ·rw [if_pos ht]
  simp only [Array.getElem?_toList,putCells,Array.getElem?_mapIdx]
  rw [Array.getElem?_eq_getElem (show t<cur.size by omega),Array.getElem?_eq_getElem ht]
  simp [ht]
 ·rw [if_neg ht,List.getElem?_eq_none (by simp;omega)]
variable {P:Program} {ρ:Ren} {α:Type} [Enc α] {T:TypeId}
theorem RdL.flat (enc:β→List Value) (val:β→α) {S:Nat→Prop} {w:World} (hk:∀ y,(enc y).length=Enc.sz α):∀ (l:List β),(∀ y∈l,Enc.rd S w (enc y) (val y))→RdL S w (l.flatMap enc) (l.map val)
 | [],_=>rfl
 | a :: l,h=>by
  rw [List.flatMap_cons]
  refine ⟨?_,?_⟩
  ·rw [List.take_left' (hk a)];exact h a List.mem_cons_self
  ·rw [List.drop_left' (hk a)];exact RdL.flat enc val hk l fun y hy=>h y (List.mem_cons_of_mem _ hy)
theorem b1G {w0:World} {S0:Nat→Prop} {blk n k:Nat} {g:Nat} {cp:List Value} {cmp:α→α→Option Int} (L:SlLaysF0.n6 P ρ) (aE:∀ w,(isAgg (ρ.t 24)).run P w=.ok true w) (zE:∀ w,(Go.sizeOf (ρ.t 24)).run P w=.ok (Enc.sz α) w)
  (hv:∀ cs,Enc.val α cs=.agg cs.toArray) (z0:0<Enc.sz α) (val:β→α) (enc:β→List Value) (hrd:∀ y:β,Enc.rd S0 w0 (enc y) (val y)) (d:Array β) (hn:n=d.size) (hlen:n<4611686018427387904)
  (hS:∀ b,S0 b→b<w0.heap.size) (hin:Ins S0 w0 [.row (some ⟨blk,0,none⟩) n k (d.toList.flatMap enc) T (Enc.sz α)]) (hfn:(a6G P g [] cp cmp).p S0 w0) (cf:β→β→Int) (hcf:∀ a b:β,cmp (val a) (val b)=some (cf a b)) (hO:SWO (ltOf cf)) :
  Calls P (ρ.f 6) #[.slice (some ⟨blk,0,none⟩) n k,.func (.func g) #[] cp.toArray] w0 (Ret [blk] w0 S0 fun S w v=>v=.tuple #[] ∧
   Outs [blk] w0 S w [.row (some ⟨blk,0,none⟩) n k ((Go.Sort.pdq (ltOf cf) d 0 d.size (Lib.bitLen d.size) true true).toList.flatMap enc) T (Enc.sz α)] ∧
   RdL S w ((Go.Sort.pdq (ltOf cf) d 0 d.size (Lib.bitLen d.size) true true).toList.flatMap enc) ((Go.Sort.pdq (ltOf cf) d 0 d.size (Lib.bitLen d.size) true true).toList.map val)):=by
 subst hn
 have hk:∀ y:β,(enc y).length=Enc.sz α:=fun y=>Enc.len (hrd y)
 have hat:=hin.at_ _ (List.mem_singleton.2 rfl) blk rfl
 have hown:w0.ownsRow 0 T (Enc.sz α) (.slice (some ⟨blk,0,none⟩) d.size k) d.size (d.toList.flatMap enc):=hin.own _ (List.mem_singleton.2 rfl)
 obtain ⟨hl,ho⟩:=hown
 obtain ⟨g',cap,cur,e1,_,e3,e4,e5,e6,e7⟩:∃ g cap cur,(Value.slice (some ⟨blk,0,none⟩) d.size k)=.slice (some ⟨g,0,none⟩) d.size cap∧0≤g∧w0.heap[g]? = some (.cells cur T (0,0))∧d.size≤cap∧cap≤maxLen∧cur.size=cap * Enc.sz α∧cur.toList.take (d.size * Enc.sz α)=d.toList.flatMap enc:=by
  rcases ho with ho | ho
  ·exact absurd ho.1 (by simp)
  ·exact ho
 simp only [Value.slice.injEq,Option.some.injEq,Addr.mk.injEq,and_true] at e1
 obtain ⟨e1,_,e2⟩:=e1
 subst e1
 subst e2
 have hflat:=a9L enc (Enc.sz α) z0 hk
 have hcs:d.size * Enc.sz α≤cur.size:=by rw [e6];exact Nat.mul_le_mul_right _ e4
 have hkeep:∀ m (dk:Array β) os,a2a S0 S0 w0 (sortWorldK enc (Enc.sz α) w0 blk 0 m dk os):=fun m dk os b hb=>⟨hb,b4s enc _ w0 blk m dk os (fun e=>hat.1 (e ▸ hb)) (hS b hb)⟩
 have hcmp:CmpLays P g cp.toArray enc (Enc.sz α) cf blk 0 d.size w0:=by
  intro m os dk hdk a b
  have:=hfn.2 (S':=S0) (w':=sortWorldK enc (Enc.sz α) w0 blk 0 m dk os) (hkeep m dk os) (fun b hb=>Nat.lt_of_lt_of_le (hS b hb) (b4t _ _ _ _ _ _ _)) (Enc.mono (hkeep m dk os) (hrd a)) (Enc.mono (hkeep m dk os) (hrd b)) (hcf a b)
  have ea:(([]:List Value) ++ [Enc.val α (enc a),Enc.val α (enc b)] ++ cp).toArray=#[.agg (enc a).toArray,.agg (enc b).toArray] ++ cp.toArray:=by rw [hv,hv];simp
  rw [ea] at this
  refine this.mono ?_
  rintro e w' ⟨v,S',rfl,hp,hr⟩
  exact ⟨by rw [show v=.int .i64 (cf a b) from hr],b4Q hp⟩
 have hH:HoldsK enc (Enc.sz α) w0 blk 0 d:=by
  intro j hj
  have hj':j<d.size * Enc.sz α:=by simpa using hj
  have hlt:j<cur.size:=by omega
  refine ⟨?_,by simp [World.frozen?,e3]⟩
  have h1:(d.toList.flatMap enc)[j]? = cur[j]?:=by
   rw [← e7,List.getElem?_take,if_pos hj',Array.getElem?_toList]
  have h2:(d.toList.flatMap enc)[j]? = some (flatK enc (Enc.sz α) d)[j]!:=by
   rw [← hflat,Array.getElem?_toList,Array.getElem?_eq_getElem hj,← getElem!_pos]
  rw [h2] at h1
  simp only [World.cell?,e3,Nat.zero_add,Option.isSome_none,Bool.false_eq_true,if_false]
  rw [← h1];rfl
 refine (AnyQ.slices_SortFunc_eq L (Enc.sz α) aE zE enc hk (fun y=>Enc.one (hrd y)) cf hO g cp.toArray blk 0 k d w0 hfn.1 hcmp hH hat.2 hlen).mono ?_
 rintro e w' ⟨rfl,m,os,rfl⟩
 have hpd:=Go.Sort.pdq_sorts (ltOf cf) hO d 0 d.size (Lib.bitLen d.size) true true (Nat.zero_le _) (Nat.le_refl _) (Or.inl rfl)
 obtain ⟨D,hD⟩:∃ D,Go.Sort.pdq (ltOf cf) d 0 d.size (Lib.bitLen d.size) true true=D:=⟨_,rfl⟩
 rw [hD] at hpd ⊢
 have hDs:D.size=d.size:=hpd.1.1
 have hsw:=b4t enc (Enc.sz α) w0 blk m D os
 have hst:=sw_at enc (Enc.sz α) w0 blk m D os e3
 have hFl:(D.toList.flatMap enc).length=d.size * Enc.sz α:=by rw [a3v enc _ hk,Array.length_toList,hDs]
 refine ⟨_,S0,rfl,⟨rfl,rfl,rfl,Nat.le_add_right _ _,hsw,fun b hb hx=>b4s enc _ w0 blk m D os (fun e=>hx (by simp [e])) hb,fun b hb=>hb,fun b hb=>⟨Nat.lt_of_lt_of_le (hS b hb) hsw,.inl hb⟩⟩,rfl,⟨?_,?_,List.pairwise_singleton _ _⟩,?_⟩
 ·intro r hr
  rcases List.mem_singleton.1 hr with rfl
  refine ⟨hFl,.inr ⟨blk,k,putCells id 0 (flatK enc (Enc.sz α) D) cur,rfl,Nat.zero_le _,hst,e4,e5,by rw [← e6];simp [putCells],?_⟩⟩
  have:=put_take (flatK enc (Enc.sz α) D) cur (by rw [size_flatK,hDs];exact hcs)
  rw [size_flatK,hDs,a9L enc _ z0 hk] at this
  exact this
 ·intro r hr b hb
  rcases List.mem_singleton.1 hr with rfl
  simp only [Res.blk,Option.map_some,Option.some.injEq] at hb
  subst hb
  exact ⟨hat.1,Nat.lt_of_lt_of_le hat.2 hsw,.inl (by simp)⟩
 ·exact RdL.flat enc val hk D.toList fun y _=>Enc.mono (hkeep m D os) (hrd y)
end
section
variable {P:Program} {ρ:Ren} {α:Type} [Enc α] {T:TypeId}
theorem RdL.encs (enc:α→List Value) (he:∀ S w cs (d:α),Enc.rd S w cs d→cs=enc d) {S:Nat→Prop} {w:World}:∀ {l:List α} {cs:List Value},RdL S w cs l→cs=l.flatMap enc
 | [],cs,h=>h
 | a :: l,cs,h=>by
  have h1:=he _ _ _ _ h.1
  have h2:=RdL.encs enc he h.2
  rw [List.flatMap_cons,← h1,← h2,List.take_append_drop]
theorem b1H {w0:World} {S0:Nat→Prop} {p:Option Addr} {k:Nat} {cs:List Value} {g:Nat} {cp:List Value} {x r:List α} {cmp:α→α→Option Int} (L:SlLaysF0.n6 P ρ) (aE:∀ w,(isAgg (ρ.t 24)).run P w=.ok true w) (zE:∀ w,(Go.sizeOf (ρ.t 24)).run P w=.ok (Enc.sz α) w)
  (hv:∀ cs,Enc.val α cs=.agg cs.toArray) (z0:0<Enc.sz α) (enc:α→List Value) (he:∀ S w cs (d:α),Enc.rd S w cs d→cs=enc d)
  (hsh:a7p x cmp=some r) (hS:∀ b,S0 b→b<w0.heap.size) (hin:Ins S0 w0 [.row p x.length k cs T (Enc.sz α)]) (hrow:(j6 cs x).p S0 w0) (hfn:(a6G P g [] cp cmp).p S0 w0) :
  Calls P (ρ.f 6) #[.slice p x.length k,.func (.func g) #[] cp.toArray] w0 (Ret (H8 [.row p x.length k cs T (Enc.sz α)]) w0 S0 fun S w v=>∃ ck,v=.tuple #[]∧Outs (H8 [.row p x.length k cs T (Enc.sz α)]) w0 S w [.row p r.length k ck T (Enc.sz α)]∧(j6 ck r).p S w∧(a2b x.length r).p S w):=by
 unfold a7p at hsh
 split at hsh
 ·next h=>
  subst h
  have hr:=Option.some.inj hsh
  subst hr
  refine (AnyF.slices_SortFunc_none { L with } p k _ w0).mono ?_
  rintro e w' ⟨rfl,rfl⟩
  refine ⟨_,S0,rfl,⟨rfl,rfl,rfl,Nat.le_refl _,Nat.le_refl _,fun _ _ _=>rfl,fun _ h=>h,fun b hb=>⟨hS b hb,.inl hb⟩⟩,cs,rfl,⟨hin.own,fun r hr b hb=>?_,hin.apart⟩,hrow,rfl⟩
  have:=hin.at_ r hr b hb
  exact ⟨this.1,this.2,.inl (a3C.2 ⟨r,hr,hb⟩)⟩
 ·next h=>
  split at hsh
  ·next ho=>
   have hr:=Option.some.inj hsh
   have hown:w0.ownsRow 0 T (Enc.sz α) (.slice p x.length k) x.length cs:=hin.own _ (List.mem_singleton.2 rfl)
   obtain ⟨blk,rfl⟩:∃ blk,p=some ⟨blk,0,none⟩:=by
    rcases hown.2 with ⟨_,h0⟩ | ⟨g,cap,cur,e,_⟩
    ·exact absurd (List.eq_nil_of_length_eq_zero h0) h
    ·simp only [Value.slice.injEq] at e
     exact ⟨g,e.1⟩
   have hcs:cs=x.flatMap enc:=RdL.encs enc he hrow
   letI hI:Inhabited {y // y∈x}:=⟨⟨x.head h,List.head_mem h⟩⟩
   have hfl:x.attach.toArray.toList.flatMap (fun y:{y // y∈x}=>enc y.1)=cs:=by
    rw [hcs]
    have:x.flatMap enc=(x.attach.map (·.1)).flatMap enc:=by simp
    rw [this,List.flatMap_map]
   have hsz:x.length=x.attach.toArray.size:=by simp
   have hm:∀ y:{y // y∈x},Enc.rd S0 w0 (enc y.1) y.1:=fun y=>by
    obtain ⟨i,hi,e⟩:=List.mem_iff_getElem.1 y.2
    have:=RdL.get hrow i hi
    rw [e] at this
    rw [← he _ _ _ _ this];exact this
   have hc:=b1G (T:=T) L aE zE hv z0 (fun y:{y // y∈x}=>y.1) (fun y=>enc y.1) hm x.attach.toArray hsz (by have:=ho.len;omega) hS (by rw [hfl];exact hin) hfn (cfX x cmp) (fun a b=>ho.run a b) ho.ord
   refine hc.mono ?_
   rintro e w' ⟨v,S',rfl,hp,hv',ho',hrd⟩
   have hpd:=Go.Sort.pdq_sorts (ltX x cmp) ho.ord x.attach.toArray 0 x.attach.toArray.size (Lib.bitLen x.attach.toArray.size) true true (Nat.zero_le _) (Nat.le_refl _) (Or.inl rfl)
   have hlen:r.length=x.length:=by
    rw [← hr]
    show ((@pdqI α x cmp _).toList.map (·.1)).length=_
    rw [List.length_map,Array.length_toList]
    exact (hpd.1.1).trans hsz.symm
   refine ⟨v,S',rfl,hp,?_⟩
   rw [hlen]
   refine ⟨_,hv',ho',?_,hlen.symm⟩
   rw [← hr];exact hrd
  ·cases hsh
theorem RdL.pairs {x:List α} {S:Nat→Prop} {w:World}:∀ {l:List α} {cs:List Value},RdL S w cs l→(∀ y∈l,y∈x)→∃ L:List {q:List Value × α // q.2∈x∧Enc.rd S w q.1 q.2},L.map (fun q=>q.1.2)=l∧L.flatMap (fun q=>q.1.1)=cs
 | [],cs,h,_=>⟨[],rfl,h.symm⟩
 | a :: l,cs,h,hm=>by
  obtain ⟨L,h1,h2⟩:=RdL.pairs h.2 fun y hy=>hm y (List.mem_cons_of_mem _ hy)
  exact ⟨⟨(cs.take (Enc.sz α),a),hm a List.mem_cons_self,h.1⟩ :: L,by rw [List.map_cons,h1],by rw [List.flatMap_cons,h2,List.take_append_drop]⟩
theorem sort_tot {w0:World} {S0:Nat→Prop} {p:Option Addr} {k:Nat} {cs:List Value} {g:Nat} {cp:List Value} {x r:List α} {cmp:α→α→Option Int} (L:SlLaysF0.n6 P ρ) (aE:∀ w,(isAgg (ρ.t 24)).run P w=.ok true w) (zE:∀ w,(Go.sizeOf (ρ.t 24)).run P w=.ok (Enc.sz α) w)
  (hv:∀ cs,Enc.val α cs=.agg cs.toArray) (z0:0<Enc.sz α)
  (hsh:b3d x cmp=some r) (hS:∀ b,S0 b→b<w0.heap.size) (hin:Ins S0 w0 [.row p x.length k cs T (Enc.sz α)]) (hrow:(j6 cs x).p S0 w0) (hfn:(a6G P g [] cp cmp).p S0 w0) :
  Calls P (ρ.f 6) #[.slice p x.length k,.func (.func g) #[] cp.toArray] w0 (Ret (H8 [.row p x.length k cs T (Enc.sz α)]) w0 S0 fun S w v=>∃ ck,v=.tuple #[]∧Outs (H8 [.row p x.length k cs T (Enc.sz α)]) w0 S w [.row p r.length k ck T (Enc.sz α)]∧(j6 ck r).p S w∧(a2b x.length r).p S w):=by
 unfold b3d at hsh
 split at hsh
 case isFalse=>cases hsh
 next hT=>
 unfold a7p at hsh
 split at hsh
 ·next h=>
  subst h
  have hr:=Option.some.inj hsh
  subst hr
  refine (AnyF.slices_SortFunc_none { L with } p k _ w0).mono ?_
  rintro e w' ⟨rfl,rfl⟩
  refine ⟨_,S0,rfl,⟨rfl,rfl,rfl,Nat.le_refl _,Nat.le_refl _,fun _ _ _=>rfl,fun _ h=>h,fun b hb=>⟨hS b hb,.inl hb⟩⟩,cs,rfl,⟨hin.own,fun r hr b hb=>?_,hin.apart⟩,hrow,rfl⟩
  have:=hin.at_ r hr b hb
  exact ⟨this.1,this.2,.inl (a3C.2 ⟨r,hr,hb⟩)⟩
 ·next h=>
  split at hsh
  ·next ho=>
   have hr:=Option.some.inj hsh
   have hown:w0.ownsRow 0 T (Enc.sz α) (.slice p x.length k) x.length cs:=hin.own _ (List.mem_singleton.2 rfl)
   obtain ⟨blk,rfl⟩:∃ blk,p=some ⟨blk,0,none⟩:=by
    rcases hown.2 with ⟨_,h0⟩ | ⟨g,cap,cur,e,_⟩
    ·exact absurd (List.eq_nil_of_length_eq_zero h0) h
    ·simp only [Value.slice.injEq] at e
     exact ⟨g,e.1⟩
   obtain ⟨Q,q1,q2⟩:=RdL.pairs (x:=x) hrow fun y hy=>hy
   have hQ:Q≠[]:=fun e=>h (by rw [← q1,e];rfl)
   haveI hI:Inhabited {q:List Value × α // q.2∈x∧Enc.rd S0 w0 q.1 q.2}:=⟨Q.head hQ⟩
   have hsz:x.length=Q.toArray.size:=by have:=congrArg List.length q1;simpa using this.symm
   have hord:SWO (ltOf fun a b:{q:List Value × α // q.2∈x∧Enc.rd S0 w0 q.1 q.2}=>(cmp a.1.2 b.1.2).getD 0):=
    ⟨fun a=>ho.ord.irrefl ⟨a.1.2,a.2.1⟩,fun a b c=>ho.ord.trans ⟨a.1.2,a.2.1⟩ ⟨b.1.2,b.2.1⟩ ⟨c.1.2,c.2.1⟩,fun a b c=>ho.ord.ntrans ⟨a.1.2,a.2.1⟩ ⟨b.1.2,b.2.1⟩ ⟨c.1.2,c.2.1⟩⟩
   have hc:=b1G (T:=T) (w0:=w0) (S0:=S0) (blk:=blk) (n:=x.length) (k:=k) L aE zE hv z0 (fun q:{q:List Value × α // q.2∈x∧Enc.rd S0 w0 q.1 q.2}=>q.1.2) (fun q=>q.1.1) (fun q=>q.2.2) Q.toArray hsz (by have:=ho.len;omega) hS (by rw [List.toList_toArray,q2];exact hin) hfn
    (fun a b=>(cmp a.1.2 b.1.2).getD 0) (fun a b=>ho.run ⟨a.1.2,a.2.1⟩ ⟨b.1.2,b.2.1⟩) hord
   refine hc.mono ?_
   rintro e w' ⟨v,S',rfl,hp,hv',ho',hrd⟩
   have hpd:=Go.Sort.pdq_sorts _ hord Q.toArray 0 Q.toArray.size (Lib.bitLen Q.toArray.size) true true (Nat.zero_le _) (Nat.le_refl _) (Or.inl rfl)
   obtain ⟨D,hD⟩:∃ D,Go.Sort.pdq (ltOf fun a b:{q:List Value × α // q.2∈x∧Enc.rd S0 w0 q.1 q.2}=>(cmp a.1.2 b.1.2).getD 0) Q.toArray 0 Q.toArray.size (Lib.bitLen Q.toArray.size) true true=D:=⟨_,rfl⟩
   rw [hD] at hpd ho' hrd
   obtain ⟨⟨p1,_,p3⟩,p4⟩:=hpd
   have hDn:D.size=x.length:=p1.trans hsz.symm
   have lt0:∀ a b:{y // y∈x},ltX x cmp a b=(fun a b:α=>decide ((cmp a b).getD 0<0)) a.1 b.1:=fun a b=>rfl
   obtain ⟨x1,x2⟩:=b1A h ho (fun a b:α=>decide ((cmp a b).getD 0<0)) lt0
   rw [hr] at x1 x2
   have hlen:r.length=x.length:=x1.length_eq
   have hperm:(D.toList.map fun q=>q.1.2).Perm x:=by
    have e1:∀ d:Array {q:List Value × α // q.2∈x∧Enc.rd S0 w0 q.1 q.2},d.size=Q.toArray.size→d.extract 0 Q.toArray.size=d:=fun d hd=>by rw [← hd];simp
    rw [e1 _ p1,e1 _ rfl] at p3
    have:=p3.map (fun q=>q.1.2)
    rw [List.toList_toArray,q1] at this
    exact this
   have heq:(D.toList.map fun q=>q.1.2)=r:=by
    refine a9P (lt:=fun a b:α=>decide ((cmp a b).getD 0<0)) (hperm.trans x1.symm) (fun a ha b hb g1 g2=>?_) ?_ (x2.pw0 hlen.symm)
    ·exact hT ⟨a,hperm.mem_iff.1 ha⟩ ⟨b,hperm.mem_iff.1 hb⟩ g1 g2
    ·rw [List.pairwise_iff_getElem]
     intro i j hi hj hij
     have hi':i<D.size:=by simpa using hi
     have hj':j<D.size:=by simpa using hj
     have:=p4 i j (Nat.zero_le _) hij (by omega)
     rw [getElem!_pos D j hj',getElem!_pos D i hi'] at this
     simp only [List.getElem_map,Array.getElem_toList]
     exact this
   refine ⟨v,S',rfl,hp,?_⟩
   rw [hlen]
   refine ⟨_,hv',ho',?_,hlen.symm⟩
   rw [← heq];exact hrd
  ·cases hsh
end
end Go.Proofs.YteanekphncdhiaaGreat.Wk

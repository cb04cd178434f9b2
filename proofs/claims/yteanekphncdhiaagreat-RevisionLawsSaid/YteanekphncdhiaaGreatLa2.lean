/- Libraries for walks over any program, put together in one text. -/
import Derived.Test.YteanekphncdhiaaGreatLa1
import Derived.Lib.AppendZerosOnto
import Derived.Lib.Overlaps
import Derived.Laws.Externs
namespace Go.Proofs.YteanekphncdhiaaGreat.Wk
open Go Go.RowKit Go.Proofs.YteanekphncdhiaaGreat.Sh
set_option linter.unusedSimpArgs false
set_option linter.unusedVariables false
def PuA (φ:Prop):Asrt:=⟨fun _ _=>φ,fun _ h=>h⟩
def Gr (cs c1:List Value):Prop:=∃ jk,c1=cs ++ jk
def Mid (cs c2:List Value) (i m sz:Nat):Prop:=∃ mid:List Value,mid.length=m * sz∧c2=cs.take (i * sz) ++ mid ++ cs.drop (i * sz)
section steps
variable {P:Program} {ops:Array Oper} {Q:Exit→Act→World→Prop} {rest:List Oper} {N:Nat} {L:C8} {a:Act} {w:World} {fx:Fx} {S:Nat→Prop} {R:List Res} {E:List Asrt}
variable {ty:TypeId} {pos:String} {af:Array Edge} {g:Option (Nat × Bool)} {d:Nat}
theorem row_nk {p:Option Addr} {n k:Nat} {cs:List Value} {T:TypeId} {sz:Nat} (ho:(Res.row p n k cs T sz).own w):n≤k:=by
 rcases ho.2 with ⟨e0,e1⟩ | ⟨b,cap,cur,e0,_,g1,g2,g3,g4,g5⟩
 ·omega
 ·simp only [Value.slice.injEq] at e0;omega
theorem row_pre {α:Type} [Enc α] {p:Option Addr} {k:Nat} {cs:List Value} {T:TypeId} {xs ys:List α} {h':Int} (hw:Wd fx S R E w) (i:Nat) (hr:R[i]? = some (.row p xs.length k cs T (Enc.sz α))) (hs:D8 xs 0 h'=some ys) :
  a3t p xs.length k 0 h' (Enc.sz α) p ys.length k:=by
 obtain ⟨⟨h0,h1,h2⟩,he⟩:=a0c hs
 have hnk:=row_nk (hw.ownAt i hr)
 refine ⟨by omega,by omega,by omega,by rw [he];simp;omega,by simp,?_⟩
 rw [Int.toNat_zero,Nat.zero_mul]
 split
 ·rfl
 ·cases p <;> simp [Addr.add]
theorem b2r {α:Type} [Enc α] {t e ti:TypeId} {bytes:Nat} {z:Value} {z0:α} {s x:Operand} {ki kx:IntKind} {p:Option Addr} {k:Nat} {cs:List Value} {xs l ys:List α} {j c:Int} (hs:Sl N L a) (hw:Wd fx S R E w)
  (ir:Nat) (hr:R[ir]? = some (.row p xs.length k cs e (Enc.sz α))) (ie:Nat) (hE:E[ie]? = some (j6 cs xs)) (ht:ElT P t e (Enc.sz α) bytes z) (hz:Enc.rd S w z.cells.toList z0) (hti:P.underlying ti=some (.int ki))
  (hsub:D8 xs 0 j=some l) (hx:ev L s=some (.slice p l.length k)) (hy:ev L x=some (.int kx c)) (hm:appZ bytes z0 l c=some ys) (hg:(k:Int)<l.length+c) (hN:Nat.ble (d+1) N=true) (hwt:Wanted ops L g)
  (K:∀ p' k' cs' a w',Sl N ((d,.slice p' ys.length k') :: L) a→Wd fx S (.row p' ys.length k' cs' e (Enc.sz α) :: R) (j6 cs' ys :: E) w'→wpList P ops Q rest a w') :
  wpList P ops Q (⟨some d,.call { callee:=.builtin .append,args:=#[s,x],argTypes:=#[t,ti] },ty,pos,af,g⟩ :: rest) a w:=by
 obtain ⟨⟨h0,h1,h2⟩,rfl⟩:=b3q hm
 obtain ⟨⟨g0,g1,g2⟩,hl⟩:=a0c hsub
 obtain ⟨hu,⟨i,hi,e1,e2,e3⟩,hzs,hpos⟩:=ht
 simp only [Int.toNat_zero,List.drop_zero] at hl
 have ho:=hw.ownAt ir hr
 have hX:RdL S w cs xs:=hw.envAt ie hE
 have hLr:RdL S w (cs.take (l.length * Enc.sz α)) l:=by
  have hlen:l.length=j.toNat:=by rw [hl];simp;omega
  rw [hlen,hl]
  exact RdL.tk hX _
 have hLl:=hLr.length
 obtain ⟨cn,rfl⟩:∃ cn:Nat,c=cn:=⟨c.toNat,by omega⟩
 have hnb:(l.length+cn) * bytes≤140737488355328:=by
  have:(((l.length+cn) * bytes:Nat):Int)=((l.length:Int)+cn) * bytes:=by push_cast;rfl
  omega
 have hcb:cn * bytes≤281474976710656:=Nat.le_trans (Nat.le_trans (Nat.mul_le_mul_right _ (Nat.le_add_left _ _)) hnb) (by decide)
 have hold:(Builtin.firstCells i.size l.length (.slice p l.length k)).run P w.drew=.ok (cs.take (l.length * Enc.sz α)).toArray w.drew:=by
  by_cases hl0:l.length=0
  ·have:cs.take (l.length * Enc.sz α)=[]:=by rw [hl0];simp
   rw [this,hl0]
   cases p <;> simp [Builtin.firstCells,loadCells,loadCellsFrom]
  ·have hle:l.length≤xs.length:=by rw [hl,List.length_take];omega
   obtain ⟨b,rfl⟩:=a2i ho (by omega)
   rw [e1]
   refine run_firstCells_some (P:=P) w.drew (Enc.sz α) l.length ⟨b,0,none⟩ l.length k _ hLl (fun q u hq=>?_)
   rw [addr_add,Nat.zero_add]
   show w.cell? _=_
   rw [List.getElem?_take] at hq
   split at hq
   ·exact a2L ho hq
   ·cases hq
 have hrun:=Lib.run_append_grow_zeros (P:=P) w t ti ty e i z kx ki hu hti hi e3 p l.length k _ hold cn (by omega) (by rw [e1];exact hpos) (by omega) (by omega) (by rw [e2];exact hcb) (by rw [e2];exact growslice_fits (by omega) hnb)
 have hrep:(List.replicate ((cn:Int)).toNat z0)=List.replicate cn z0:=by simp
 rw [hrep] at K
 have hYl:(l ++ List.replicate cn z0).length=l.length+cn:=by simp
 rw [hYl] at K
 have hzr:=a6j (S:=S) (w:=w) hz cn
 have ezc:Builtin.zeroCells z.cells cn=madeCells z.cells (cn * Enc.sz α):=by
  unfold Builtin.zeroCells madeCells;rw [hzs]
 have hrd:RdL S w (cs.take (l.length * Enc.sz α) ++ (madeCells z.cells (cn * Enc.sz α)).toList) (l ++ List.replicate cn z0):=hLr.append hzr
 have hrl:=hrd.length
 rw [hYl] at hrl
 have hge:=grownCap_ge w (l.length+cn) k e
 have hcm:=grownCap_le_maxLen w (l.length+cn) k e (by simp only [maxLen];omega)
 refine a4Q hs (v:=.slice (some ⟨w.heap.size,0,none⟩) (l.length+cn) (grownCap w (l.length+cn) k e)) (w':=w.drew.alloc (.cells ((cs.take (l.length * Enc.sz α)).toArray ++ Builtin.zeroCells z.cells cn ++ Builtin.zeroCells z.cells (grownCap w (l.length+cn) k e - (l.length+cn))) e)) (fun a h=>?_) hwt rfl hN fun a hs=>?_
 ·simp [execOp,resolve,invoke,builtin,h _ _ hx,h _ _ hy,hrun]
 ·refine K _ _ (cs.take (l.length * Enc.sz α) ++ (madeCells z.cells (cn * Enc.sz α)).toList) a _ hs ((hw.addE (e:=j6 (cs.take (l.length * Enc.sz α) ++ (madeCells z.cells (cn * Enc.sz α)).toList) (l ++ List.replicate cn z0)) hrd).new ⟨⟨rfl,rfl,rfl,by simp,fun b hb _=>heap_alloc_old w.drew _ b hb⟩,Nat.le_succ _⟩ ⟨hrl,.inr ⟨w.heap.size,_,_,rfl,Nat.zero_le _,heap_alloc_new w.drew _,hge,hcm,?_,?_⟩⟩ (fun b hb=>by simp only [Res.blk,Option.map_some,Option.some.injEq] at hb;subst hb;simp))
  ·simp only [Array.size_append,List.size_toArray,size_zeroCells,hzs,hLl,← Nat.add_mul]
   congr 1
   omega
  ·simp only [Array.toList_append,List.append_assoc,ezc]
   rw [← List.append_assoc,← hrl]
   exact List.take_left
theorem Wd.growRow (hw:Wd fx S R E w) (i:Nat) {p:Option Addr} {n k n':Nat} {cs:List Value} {T:TypeId} {sz:Nat} (hr:R[i]? = some (.row p n k cs T sz)) (h1:n≤n') (h2:n'≤k) :
  ∃ c1,Wd fx S (R.set i (.row p n' k c1 T sz)) (PuA (Gr cs c1) :: E) w:=by
 have ho:=hw.ownAt i hr
 have key:∃ c1,(Res.row p n' k c1 T sz).own w∧Gr cs c1:=by
  obtain ⟨hl,ho⟩:=ho
  rcases ho with ⟨e0,e1⟩ | ⟨b,cap,cur,e0,g0,g1,g2,g3,g4,g5⟩
  ·simp only [Value.slice.injEq] at e0
   obtain ⟨rfl,rfl,rfl⟩:=e0
   have:n'=0:=by omega
   subst this
   exact ⟨cs,⟨hl,.inl ⟨rfl,rfl⟩⟩,[],by simp⟩
  ·simp only [Value.slice.injEq] at e0
   obtain ⟨rfl,_,rfl⟩:=e0
   have hle:n * sz≤n' * sz:=Nat.mul_le_mul_right _ h1
   have hle2:n' * sz≤k * sz:=Nat.mul_le_mul_right _ h2
   refine ⟨cur.toList.take (n' * sz),⟨by rw [List.length_take,Array.length_toList,g4];omega,.inr ⟨b,k,cur,rfl,g0,g1,h2,g3,g4,rfl⟩⟩,(cur.toList.take (n' * sz)).drop (n * sz),?_⟩
   rw [← g5]
   have:cur.toList.take (n * sz)=(cur.toList.take (n' * sz)).take (n * sz):=by rw [List.take_take];congr 1;omega
   rw [this,List.take_append_drop]
 obtain ⟨c1,hc,hg⟩:=key
 have hm:=List.mem_of_getElem? hr
 exact ⟨c1,(hw.addE (e:=PuA (Gr cs c1)) hg).put i hr (w':=w) ⟨⟨rfl,rfl,rfl,Nat.le_refl _,fun _ _ _=>rfl⟩,Nat.le_refl _⟩ hc (fun b hb=>⟨.inl hb,(hw.at_ _ hm b hb).2.1⟩)⟩
theorem b3R {tS tR e:TypeId} {x y z:Operand} {f:FuncId} {p1 p2 p3:Option Addr} {n1 k1 n2 k2 n3 k3 sz:Nat} {c1 c2:List Value} {T:TypeId} {lo hi:Int} (i j:Nat) (hw:Wd fx S R E w) (h1:R[i]? = some (.row p1 n1 k1 c1 T sz)) (h2:R[j]? = some (.row p2 n2 k2 c2 T sz)) (hij:Nat.beq i j=false)
  (hso:a3t p2 n2 k2 lo hi sz p3 n3 k3) (ht:P.underlying tS=some (.slice e)) (hsz:SzT P e sz) (hpos:0<sz) (h10:0<n1) (h30:0<n3)
  (hc:∀ args w,(callFunc f args).run P w=((Extern.SlicesOverlaps.overlaps #[tS,tS] #[tR] args).run P w).andThen fun v w'=>.ok (.value v) w')
  (hz:ev L z=some (.func (.func f) #[] #[])) (hx:ev L x=some (.slice p1 n1 k1)) (hy:ev L y=some (.slice p3 n3 k3)) :
  Yd P ⟨some d,.call { callee:=.value z,args:=#[x,y],argTypes:=#[tS,tS] },ty,pos,af,g⟩ L w (.bool false):=fun a h=>by
 have o1:=hw.ownAt i h1
 have o2:=hw.ownAt j h2
 have hn2:0<n2∨0<k2:=by obtain ⟨e1,e2,e3,e4,_,_⟩:=hso;omega
 have key:(Extern.SlicesOverlaps.overlaps #[tS,tS] #[tR] #[.slice p1 n1 k1,.slice p3 n3 k3]).run P w=.ok (.bool false) w:=by
  rcases o1.2 with ⟨q0,q1⟩ | ⟨b1,cap1,cur1,q0,_,q1,q2,q3,q4,_⟩
  ·omega
  rcases o2.2 with ⟨r0,_⟩ | ⟨b2,cap2,cur2,r0,_,r1,r2,r3,r4,_⟩
  ·simp only [Value.slice.injEq] at r0
   omega
  simp only [Value.slice.injEq] at q0 r0
  obtain ⟨rfl,_,rfl⟩:=q0
  obtain ⟨rfl,_,rfl⟩:=r0
  obtain ⟨e1,e2,e3,e4,_,e6⟩:=hso
  have hp3:p3=some ⟨b2,lo.toNat * sz,none⟩:=by
   rw [e6,if_neg (by omega)]
   simp only [Option.map_some,addr_add,Nat.zero_add]
  subst hp3
  have hne:b1≠b2:=by
   have hp:=List.pairwise_iff_getElem.1 hw.apart
   obtain ⟨a1,a2⟩:=List.getElem?_eq_some_iff.1 h1
   obtain ⟨a3,a4⟩:=List.getElem?_eq_some_iff.1 h2
   intro e
   subst e
   rcases Nat.lt_or_gt_of_ne (Nat.ne_of_beq_eq_false hij) with hlt | hlt
   ·exact hp i j a1 a3 hlt b1 (by rw [a2];rfl) (by rw [a4];rfl)
   ·exact hp j i a3 a1 hlt b1 (by rw [a4];rfl) (by rw [a2];rfl)
  exact Lib.run_overlaps_apart (P:=P) w tS tR e ht sz hsz ⟨b1,0,none⟩ ⟨b2,lo.toNat * sz,none⟩ n1 k1 n3 k3 hne T T cur1.size cur2.size (by simp [World.shape?,q1]) (by simp [World.shape?,r1])
   (by rw [r4];exact Nat.ne_of_gt (Nat.mul_pos (by omega) hpos)) (by simp [World.frozen?,q1]) (by simp [World.frozen?,q1])
 have e:#[a.eval x,a.eval y]=#[Value.slice p1 n1 k1,Value.slice p3 n3 k3]:=by rw [h _ _ hx,h _ _ hy]
 simp [execOp,resolve,h _ _ hz,Deferred.ofValue,invoke,h _ _ hx,h _ _ hy,hc,key,Result.andThen]
theorem w_shift {α:Type} [Enc α] {t ts e:TypeId} {x y:Operand} {p p1 p2:Option Addr} {k k1 k2 n1 n2 rl ni mi:Nat} {cs c1:List Value} {xs:List α} {lo1 lo2 hi1 hi2:Int} (hs:Sl N L a) (hw:Wd fx S R E w)
  (i:Nat) (hr:R[i]? = some (.row p rl k c1 e (Enc.sz α))) (ig:Nat) (hG:E[ig]? = some (PuA (Gr cs c1))) (ie:Nat) (hE:E[ie]? = some (j6 cs xs)) (hu:a1g P t (.slice e)) (hus:a1g P ts (.slice e)) (hsz:SzT P e (Enc.sz α)) (hpos:0<Enc.sz α)
  (hrl:rl=xs.length+mi) (hin:ni<xs.length) (hso1:a3t p rl k lo1 hi1 (Enc.sz α) p1 n1 k1) (hl1:lo1.toNat=ni+mi) (hn1:n1=xs.length - ni) (hso2:a3t p rl k lo2 hi2 (Enc.sz α) p2 n2 k2) (hl2:lo2.toNat=ni) (hn2:n2=xs.length+mi - ni)
  (hx:ev L x=some (.slice p1 n1 k1)) (hy:ev L y=some (.slice p2 n2 k2)) (hN:Nat.ble (d+1) N=true) (hwt:Wanted ops L g)
  (K:∀ c2 a w',Sl N ((d,.int .i64 (min n2 n1:Nat)) :: L) a→Wd fx S (R.set i (.row p rl k c2 e (Enc.sz α))) (PuA (Mid cs c2 ni mi (Enc.sz α)) :: E) w'→wpList P ops Q rest a w') :
  wpList P ops Q (⟨some d,.call { callee:=.builtin .copy,args:=#[x,y],argTypes:=#[t,ts] },ty,pos,af,g⟩ :: rest) a w:=by
 have ho:=hw.ownAt i hr
 have hX:RdL S w cs xs:=hw.envAt ie hE
 obtain ⟨jk,rfl⟩:Gr cs c1:=hw.envAt ig hG
 have hcl:=hX.length
 have hcl1:(cs ++ jk).length=rl * Enc.sz α:=ho.1
 obtain ⟨b,rfl⟩:=a2i ho (by omega)
 have hp1:=a3g hso1 rfl (by omega)
 have hp2:=a3g hso2 rfl (by omega)
 subst hp1 hp2
 rw [hl1] at hx
 rw [hl2] at hy
 have hdl:(cs.drop (ni * Enc.sz α)).length=(xs.length - ni) * Enc.sz α:=by rw [List.length_drop,hcl,Nat.sub_mul]
 have hmin:Nat.min n2 n1=xs.length - ni:=by show min n2 n1=_;omega
 have hmin':min n2 n1=xs.length - ni:=hmin
 have hm0:¬ (xs.length - ni=0):=by omega
 have hload:(loadCells ⟨b,ni * Enc.sz α,none⟩ ((xs.length - ni) * Enc.sz α)).run P w=.ok (cs.drop (ni * Enc.sz α)).toArray w:=by
  have:=run_loadCells_list (P:=P) w ⟨b,ni * Enc.sz α,none⟩ (cs.drop (ni * Enc.sz α)) (fun j v hv=>by
   rw [addr_add]
   rw [List.getElem?_drop] at hv
   refine a2L ho ?_
   have hlt:ni * Enc.sz α+j<cs.length:=(List.getElem?_eq_some_iff.1 hv).1
   rw [List.getElem?_append_left hlt]
   exact hv)
  rw [hdl] at this
  exact this
 have e0:(ni+mi) * Enc.sz α+(xs.length - ni) * Enc.sz α=rl * Enc.sz α:=by
  rw [← Nat.add_mul];congr 1;omega
 have hfit:(ni+mi) * Enc.sz α+(cs.drop (ni * Enc.sz α)).length≤(cs ++ jk).length:=by rw [hdl,hcl1];omega
 obtain ⟨w',s1,s2,s3,s4⟩:=a7I (P:=P) (w1:=w) (q:=(ni+mi) * Enc.sz α) (vs:=cs.drop (ni * Enc.sz α)) ho hfit (fun v hv=>hX.one v (List.mem_of_mem_drop hv))
 have hrun:(Builtin.copy_ #[t,ts] ty #[.slice (some ⟨b,(ni+mi) * Enc.sz α,none⟩) n1 k1,.slice (some ⟨b,ni * Enc.sz α,none⟩) n2 k2]).run P w=.ok (.int .i64 (min n2 n1:Nat)) w':=by
  simp only [Builtin.copy_,List.getElem?_toArray,List.getElem?_cons_zero,List.getElem?_cons_succ,Sem.run_bind,hu w,Result.andThen_ok,Builtin.lenOf,Sem.run_pure,hsz w,hmin,Builtin.firstCells,hload,hm0,if_false]
  simp [s1,goInt,hmin']
 have hle:ni * Enc.sz α≤cs.length:=by rw [hcl];exact Nat.mul_le_mul_right _ (by omega)
 have hmid:Mid cs ((cs ++ jk).take ((ni+mi) * Enc.sz α) ++ cs.drop (ni * Enc.sz α) ++ (cs ++ jk).drop ((ni+mi) * Enc.sz α+(cs.drop (ni * Enc.sz α)).length)) ni mi (Enc.sz α):=by
  refine ⟨((cs ++ jk).take ((ni+mi) * Enc.sz α)).drop (ni * Enc.sz α),?_,?_⟩
  ·have h2:(ni+mi) * Enc.sz α≤(cs ++ jk).length:=by rw [hcl1];exact Nat.mul_le_mul_right _ (by omega)
   rw [List.length_drop,List.length_take,Nat.min_eq_left h2,Nat.add_mul];omega
  ·have e5:(cs ++ jk).drop ((ni+mi) * Enc.sz α+(cs.drop (ni * Enc.sz α)).length)=[]:=List.drop_eq_nil_of_le (by rw [hdl,hcl1];omega)
   rw [e5,List.append_nil]
   congr 1
   have e3:(cs ++ jk).take (ni * Enc.sz α)=cs.take (ni * Enc.sz α):=List.take_append_of_le_length hle
   have e4:((cs ++ jk).take ((ni+mi) * Enc.sz α)).take (ni * Enc.sz α)=cs.take (ni * Enc.sz α):=by
    rw [List.take_take,Nat.min_eq_left (Nat.mul_le_mul_right _ (Nat.le_add_right _ _)),e3]
   rw [← e4,List.take_append_drop]
 refine a4Q hs (v:=.int .i64 (min n2 n1:Nat)) (w':=w') (fun a h=>?_) hwt rfl hN fun a hs=>?_
 ·simp [execOp,resolve,invoke,builtin,h _ _ hx,h _ _ hy,hrun]
 ·exact K _ a w' hs ((hw.addE (e:=PuA (Mid cs _ ni mi (Enc.sz α))) hmid).put i hr s2 s3 (fun c hc=>⟨.inl hc,by simp only [Res.blk,Option.map_some,Option.some.injEq] at hc;subst hc;exact s4⟩))
theorem w_fill {α:Type} [Enc α] {t ts e:TypeId} {x y:Operand} {p p1 ps:Option Addr} {k k1 n1 rl ni mi ms ks:Nat} {cs c2 ds:List Value} {xs vs r:List α} {lo1 hi1:Int} (hs:Sl N L a) (hw:Wd fx S R E w)
  (i:Nat) (hr:R[i]? = some (.row p rl k c2 e (Enc.sz α))) (ig:Nat) (hG:E[ig]? = some (PuA (Mid cs c2 ni mi (Enc.sz α)))) (ie:Nat) (hE:E[ie]? = some (j6 cs xs)) (hu:a1g P t (.slice e)) (hus:a1g P ts (.slice e)) (hsz:SzT P e (Enc.sz α)) (hpos:0<Enc.sz α)
  (hrl:rl=xs.length+mi) (hin:ni<xs.length) (hmi:0<mi) (hso1:a3t p rl k lo1 hi1 (Enc.sz α) p1 n1 k1) (hl1:lo1.toNat=ni) (hn1:n1=xs.length+mi - ni)
  (hvs:vs.length=mi) (hms:ms=mi) (hY:RdL S w ds vs) (hnone:ps=none→vs.length=0) (hcell:∀ ad,ps=some ad→(0<vs.length→ad.spot=none)∧a1f w ad.block ad.off ds)
  (hrr:r=xs.take ni ++ vs ++ xs.drop ni) (hx:ev L x=some (.slice p1 n1 k1)) (hy:ev L y=some (.slice ps ms ks)) (hN:Nat.ble (d+1) N=true) (hwt:Wanted ops L g)
  (K:∀ c3 a w',Sl N ((d,.int .i64 (min ms n1:Nat)) :: L) a→Wd fx S (R.set i (.row p rl k c3 e (Enc.sz α))) (j6 c3 r :: E) w'→wpList P ops Q rest a w') :
  wpList P ops Q (⟨some d,.call { callee:=.builtin .copy,args:=#[x,y],argTypes:=#[t,ts] },ty,pos,af,g⟩ :: rest) a w:=by
 subst hms
 have ho:=hw.ownAt i hr
 have hX:RdL S w cs xs:=hw.envAt ie hE
 obtain ⟨mid,hml,rfl⟩:Mid cs c2 ni ms (Enc.sz α):=hw.envAt ig hG
 have hcl:=hX.length
 have hYl:=hY.length
 rw [hvs] at hYl
 have hcl1:(cs.take (ni * Enc.sz α) ++ mid ++ cs.drop (ni * Enc.sz α)).length=rl * Enc.sz α:=ho.1
 obtain ⟨b,rfl⟩:=a2i ho (by omega)
 have hp1:=a3g hso1 rfl (by omega)
 subst hp1
 rw [hl1] at hx
 cases ps with
 | none=>exact absurd (hnone rfl) (by omega)
 | some ad=>
  obtain ⟨b2,o2,sp⟩:=ad
  obtain ⟨hsp,hc⟩:=hcell _ rfl
  simp only at hsp hc
  have hsp:=hsp (by omega)
  subst hsp
  have hle:ni * Enc.sz α≤cs.length:=by rw [hcl];exact Nat.mul_le_mul_right _ (by omega)
  have hmin:Nat.min ms n1=ms:=by show min ms n1=_;omega
  have hmin':min ms n1=ms:=hmin
  have hm0:¬ (ms=0):=by omega
  have hload:(loadCells ⟨b2,o2,none⟩ (ms * Enc.sz α)).run P w=.ok ds.toArray w:=by
   have:=run_loadCells_list (P:=P) w ⟨b2,o2,none⟩ ds (fun j v hv=>by
    rw [addr_add]
    exact hc j v hv)
   rw [hYl] at this
   exact this
  have htl:(cs.take (ni * Enc.sz α)).length=ni * Enc.sz α:=by rw [List.length_take];omega
  have hfit:ni * Enc.sz α+ds.length≤(cs.take (ni * Enc.sz α) ++ mid ++ cs.drop (ni * Enc.sz α)).length:=by
   rw [List.length_append,List.length_append,htl,hml,hYl];omega
  obtain ⟨w',s1,s2,s3,s4⟩:=a7I (P:=P) (w1:=w) (q:=ni * Enc.sz α) (vs:=ds) ho hfit (fun v hv=>hY.one v hv)
  have hcs:(cs.take (ni * Enc.sz α) ++ mid ++ cs.drop (ni * Enc.sz α)).take (ni * Enc.sz α) ++ ds ++ (cs.take (ni * Enc.sz α) ++ mid ++ cs.drop (ni * Enc.sz α)).drop (ni * Enc.sz α+ds.length)=cs.take (ni * Enc.sz α) ++ ds ++ cs.drop (ni * Enc.sz α):=by
   rw [List.append_assoc (cs.take _) mid,List.take_left' htl,← List.append_assoc (cs.take (ni * Enc.sz α)) mid,List.drop_left' (by rw [List.length_append,htl,hml,hYl])]
  rw [hcs] at s3
  have hrd:RdL S w (cs.take (ni * Enc.sz α) ++ ds ++ cs.drop (ni * Enc.sz α)) r:=by
   rw [hrr]
   exact RdL.append (RdL.append (RdL.tk hX _) hY) (RdL.dp hX _)
  have hrun:(Builtin.copy_ #[t,ts] ty #[.slice (some ⟨b,ni * Enc.sz α,none⟩) n1 k1,.slice (some ⟨b2,o2,none⟩) ms ks]).run P w=.ok (.int .i64 (min ms n1:Nat)) w':=by
   simp only [Builtin.copy_,List.getElem?_toArray,List.getElem?_cons_zero,List.getElem?_cons_succ,Sem.run_bind,hu w,Result.andThen_ok,Builtin.lenOf,Sem.run_pure,hsz w,hmin,Builtin.firstCells,hload,hm0,if_false]
   simp [s1,goInt,hmin']
  refine a4Q hs (v:=.int .i64 (min ms n1:Nat)) (w':=w') (fun a h=>?_) hwt rfl hN fun a hs=>?_
  ·simp [execOp,resolve,invoke,builtin,h _ _ hx,h _ _ hy,hrun]
  ·exact K _ a w' hs ((hw.addE (e:=j6 (cs.take (ni * Enc.sz α) ++ ds ++ cs.drop (ni * Enc.sz α)) r) hrd).put i hr s2 s3 (fun c hc=>⟨.inl hc,by simp only [Res.blk,Option.map_some,Option.some.injEq] at hc;subst hc;exact s4⟩))
theorem a5T (x:Int):w64 x=(x+9223372036854775808) % 18446744073709551616 - 9223372036854775808:=by
 show IntKind.i64.wrap x=_
 rw [IntKind.wrap_i64]
theorem ins_fin {α:Type} {bytes:Nat} {z:α} {xs vs l1 s2 s4 v5 v6 s7:List α} {i n m:Int} (hn:(xs.length:Int)=n) (hm:(vs.length:Int)=m) (hnl:xs.length≤maxLen) (hvl:vs.length≤maxLen) (hm0:¬ m=0) (hin:¬ i=n)
  (g0:D8 xs i xs.length=some v6) (g1:D8 xs 0 i=some l1) (g2:appZ bytes z l1 (w64 (w64 (n+m) - i))=some s2) (g4:I1 s2 i s2.length vs=s4) (g5:D8 s4 (w64 (i+m)) s4.length=some v5) (g7:I1 s4 (w64 (i+m)) s4.length v6=s7) :
  (0≤i∧i<n∧0<m)∧w64 (n+m)=n+m∧w64 (i+m)=i+m∧s7=xs.take i.toNat ++ vs ++ xs.drop i.toNat:=by
 obtain ⟨⟨a0,a1,a2⟩,hl1⟩:=a0c g1
 obtain ⟨⟨b0,b1,b2⟩,hs2⟩:=b3q g2
 obtain ⟨_,hv6⟩:=a0c g0
 simp only [maxLen] at hnl hvl
 simp only [Int.toNat_zero,List.drop_zero] at hl1
 have hll:(l1.length:Int)=i:=by rw [hl1,List.length_take];omega
 have e1:w64 (n+m)=n+m:=by rw [a5T] at b0 b1 b2 ⊢;rw [a5T] at b0 b1;omega
 rw [e1] at b0 b1 hs2
 have e2:w64 (n+m - i)=n+m - i:=by rw [a5T] at b0 ⊢;omega
 rw [e2] at b1 hs2
 have e3:w64 (i+m)=i+m:=by rw [a5T];omega
 refine ⟨⟨a1,by omega,by omega⟩,e1,e3,?_⟩
 rw [e3] at g7
 obtain ⟨ni,rfl⟩:∃ ni:Nat,i=ni:=⟨i.toNat,by omega⟩
 subst hn hm
 rw [Int.toNat_natCast] at hl1 hv6 ⊢
 have ec:((xs.length:Int)+vs.length - ni).toNat=xs.length+vs.length - ni:=by omega
 rw [ec] at hs2
 have hl1l:l1.length=ni:=by omega
 have hs2l:s2.length=xs.length+vs.length:=by rw [hs2,List.length_append,List.length_replicate];omega
 have e4:((ni:Int)+vs.length).toNat=ni+vs.length:=by omega
 have hs4:s4=l1 ++ vs ++ s2.drop (ni+vs.length):=by
  rw [← g4]
  unfold I1
  have q1:(s2.length:Int).toNat - (ni:Int).toNat=xs.length+vs.length - ni:=by omega
  have q2:min vs.length (xs.length+vs.length - ni)=vs.length:=by omega
  rw [q1,q2,Int.toNat_natCast,List.take_of_length_le (show vs.length≤xs.length+vs.length - ni by omega)]
  congr 2
  rw [hs2,List.take_left' hl1l]
 have hA:(l1 ++ vs).length=ni+vs.length:=by rw [List.length_append];omega
 have hL:s4.length=xs.length+vs.length:=by rw [hs4,List.length_append,hA,List.length_drop];omega
 have hB:v6.length=xs.length - ni:=by rw [hv6];simp
 rw [← g7]
 unfold I1
 have q3:(s4.length:Int).toNat - ((ni:Int)+vs.length).toNat=xs.length - ni:=by omega
 rw [q3,e4,hB,Nat.min_self,List.take_of_length_le (show v6.length≤xs.length - ni by omega)]
 have q4:s4.drop (ni+vs.length+(xs.length - ni))=[]:=List.drop_eq_nil_of_le (by omega)
 have q5:s4.take (ni+vs.length)=l1 ++ vs:=by rw [hs4,List.take_left' hA]
 rw [q4,q5,List.append_nil,hl1]
 congr 1
 rw [hv6,Int.toNat_natCast,List.take_of_length_le (Nat.le_refl _)]
theorem b4o {p:Option Addr} {n k:Nat} {cs:List Value} {T:TypeId} {sz:Nat} (ho:(Res.row p n k cs T sz).own w):n≤k∧k≤maxLen:=by
 rcases ho.2 with ⟨e0,e1⟩ | ⟨b,cap,cur,e0,_,g1,g2,g3,g4,g5⟩
 ·simp only [Value.slice.injEq] at e0
  obtain ⟨_,rfl,rfl⟩:=e0
  exact ⟨Nat.le_refl _,Nat.zero_le _⟩
 ·simp only [Value.slice.injEq] at e0
  obtain ⟨_,_,rfl⟩:=e0
  exact ⟨g2,g3⟩
theorem grow_lt {α:Type} {bytes k:Nat} {z:α} {xs l1 s2:List α} {i Y:Int} (hk:decide ((k:Int)<w64 Y)=true) (g1:D8 xs 0 i=some l1) (g2:appZ bytes z l1 (w64 (w64 Y - i))=some s2):(k:Int)<l1.length+w64 (w64 Y - i):=by
 obtain ⟨⟨a0,a1,a2⟩,hl1⟩:=a0c g1
 obtain ⟨⟨b0,b1,b2⟩,_⟩:=b3q g2
 have hk:=of_decide_eq_true hk
 simp only [Int.toNat_zero,List.drop_zero] at hl1
 have hll:(l1.length:Int)=i:=by rw [hl1,List.length_take];omega
 have e1:=a5T Y
 have e2:=a5T (w64 Y - i)
 generalize w64 (w64 Y - i)=c at *
 generalize w64 Y=X at *
 omega
theorem grow_slc {p:Option Addr} {n k n' sz:Nat} {h':Int} (h0:0≤h') (h1:h'.toNat=n') (h2:n'≤k):a3t p n k 0 h' sz p n' k:=by
 refine ⟨by omega,by omega,by omega,by rw [h1];simp,by simp,?_⟩
 rw [Int.toNat_zero,Nat.zero_mul]
 split
 ·rfl
 ·cases p <;> simp [Addr.add]
theorem ins_B {α:Type} {bytes k kv:Nat} {z:α} {xs vs l1 s2 s4 v5 v6 s7:List α} {i n m:Int} (hn:some (xs.length:Int)=some n) (hm:some (vs.length:Int)=some m) (h1:(m == 0)=false) (h2:(i == n)=false) (hk:decide ((k:Int)<w64 (n+m))=false)
  (hx:xs.length≤k∧k≤maxLen) (hv:vs.length≤kv∧kv≤maxLen) (g1:D8 xs 0 i=some l1) (g2:appZ bytes z l1 (w64 (w64 (n+m) - i))=some s2) (g4:some (I1 s2 i s2.length vs)=some s4) (g5:D8 s4 (w64 (i+m)) s4.length=some v5)
  (g6:D8 xs i xs.length=some v6) (g7:some (I1 s4 (w64 (i+m)) s4.length v6)=some s7) :
  ∃ ysA ysB,D8 s7 (w64 (i+m)) s7.length=some ysA∧D8 s7 i s7.length=some ysB∧(xs.length≤s7.length∧s7.length≤k)∧(0≤w64 (n+m)∧(w64 (n+m)).toNat=s7.length)∧s7.length=xs.length+vs.length∧i.toNat<xs.length∧(w64 (i+m)).toNat=i.toNat+vs.length ∧
   ysA.length=xs.length - i.toNat∧ysB.length=xs.length+vs.length - i.toNat∧0<vs.length∧0<ysA.length∧s7=xs.take i.toNat ++ vs ++ xs.drop i.toNat:=by
 obtain ⟨⟨a0,a1,a2⟩,e1,e2,e3⟩:=ins_fin (Option.some.inj hn) (Option.some.inj hm) (by omega) (by omega) (beq_eq_false_iff_ne.1 h1) (beq_eq_false_iff_ne.1 h2) g6 g1 g2 (Option.some.inj g4) g5 (Option.some.inj g7)
 have hn:=Option.some.inj hn
 have hm:=Option.some.inj hm
 have hk:=of_decide_eq_false hk
 have hl:s7.length=xs.length+vs.length:=by
  rw [e3,List.length_append,List.length_append,List.length_take,List.length_drop];omega
 have hA:D8 s7 (w64 (i+m)) s7.length=some ((s7.take (s7.length:Int).toNat).drop (w64 (i+m)).toNat):=by unfold D8;rw [if_pos (by omega)]
 have hB:D8 s7 i s7.length=some ((s7.take (s7.length:Int).toNat).drop i.toNat):=by unfold D8;rw [if_pos (by omega)]
 refine ⟨_,_,hA,hB,by omega,by omega,hl,by omega,by omega,?_,?_,by omega,?_,e3⟩
 ·rw [List.length_drop,List.length_take];omega
 ·rw [List.length_drop,List.length_take];omega
 ·rw [List.length_drop,List.length_take];omega
end steps
end Go.Proofs.YteanekphncdhiaaGreat.Wk
namespace Go.Proofs.YteanekphncdhiaaGreat.Wk
open Go Go.RowKit Go.Proofs.YteanekphncdhiaaGreat.Sh
set_option linter.unusedSimpArgs false
set_option linter.unusedVariables false
def b3m (p:Option Addr) (k:Nat) (l h' m:Int) (sz:Nat) (p':Option Addr) (n' k':Nat):Prop:=
 0≤l∧l≤h'∧h'≤m∧m≤k∧n'=h'.toNat - l.toNat∧k'=m.toNat - l.toNat∧p'=if m.toNat=l.toNat then p else p.map (·.add (l.toNat * sz))
theorem take_mid {cur B:List Value} {a b m:Nat} (hb:B.length=b) (h:a+b≤m) (hm:m≤cur.length):(cur.take a ++ B ++ cur.drop (a+B.length)).take m=(cur.take m).take a ++ B ++ (cur.take m).drop (a+B.length):=by
 subst hb
 have h1:(cur.take a).length=a:=by rw [List.length_take];omega
 have h2:(cur.take a ++ B).length=a+B.length:=by rw [List.length_append,h1]
 rw [List.take_append,List.take_of_length_le (by omega),h2,List.take_take,Nat.min_eq_left (by omega),List.drop_take]
section steps
variable {P:Program} {ops:Array Oper} {Q:Exit→Act→World→Prop} {rest:List Oper} {N:Nat} {L:C8} {a:Act} {w:World} {fx:Fx} {S:Nat→Prop} {R:List Res} {E:List Asrt}
variable {ty:TypeId} {pos:String} {af:Array Edge} {g:Option (Nat × Bool)} {d:Nat} {dd:Option Tmp}
theorem b1a {t e:TypeId} {x hi mx:Operand} {lo:Option Operand} {p p':Option Addr} {n k sz n' k':Nat} {kh km:IntKind} {l h' m:Int} (hu:a1g P t (.slice e)) (hsz:SzT P e sz) (hx:ev L x=some (.slice p n k))
  (hlo:Bnd L lo 0 l) (hhi:ev L hi=some (.int kh h')) (hmx:ev L mx=some (.int km m)) (hsub:b3m p k l h' m sz p' n' k') :
  Yd P ⟨dd,.slice t x lo (some hi) (some mx),ty,pos,af,g⟩ L w (.slice p' n' k'):=fun a h=>by
 obtain ⟨h0,h1,h2,h3,rfl,rfl,rfl⟩:=hsub
 have hm:0≤m∧m≤k:=by omega
 have hh:0≤h'∧h'≤(m.toNat:Int):=by omega
 have hm2:h'≤max m 0:=by omega
 have hl:l≤(h'.toNat:Int):=by omega
 have hl2:l≤max h' 0:=by omega
 cases lo with
 | none=>
  simp only [Bnd] at hlo
  subst hlo
  simp [execOp,h _ _ hx,h _ _ hhi,h _ _ hmx,Instr.sliceAt,Instr.slice,hu,hsz,Instr.sliceBounds,Instr.sliceBound,asIntOf,hm.1,hm.2,hh.1,hh.2,hm2]
 | some r=>
  obtain ⟨kr,hr⟩:=hlo
  simp [execOp,h _ _ hx,h _ _ hr,h _ _ hhi,h _ _ hmx,Instr.sliceAt,Instr.slice,hu,hsz,Instr.sliceBounds,Instr.sliceBound,asIntOf,h0,hm.1,hm.2,hh.1,hh.2,hm2,hl,hl2]
theorem b0H {α:Type} [Enc α] {p:Option Addr} {k:Nat} {cs:List Value} {T:TypeId} {xs ys:List α} {l h':Int} (hw:Wd fx S R E w) (i:Nat) (hr:R[i]? = some (.row p xs.length k cs T (Enc.sz α))) (h:D8 xs l h'=some ys) :
  ∃ p' k',b3m p k l h' (xs.length:Int) (Enc.sz α) p' ys.length k':=by
 obtain ⟨⟨h0,h1,h2⟩,rfl⟩:=a0c h
 have ho:=hw.ownAt i hr
 have hnk:xs.length≤k:=by
  rcases ho.2 with ⟨e0,e1⟩ | ⟨b,cap,cur,e0,_,g1,g2,g3,g4,g5⟩
  ·omega
  ·simp only [Value.slice.injEq] at e0;omega
 exact ⟨_,_,h0,h1,h2,by omega,by simp;omega,rfl,rfl⟩
theorem b0G {α:Type} [Enc α] {p:Option Addr} {k:Nat} {cs:List Value} {T:TypeId} {xs ys:List α} {h':Int} (hw:Wd fx S R E w) (i:Nat) (hr:R[i]? = some (.row p xs.length k cs T (Enc.sz α))) (hs:D8 xs 0 h'=some ys) :
  a3t p xs.length k 0 h' (Enc.sz α) p ys.length k:=by
 obtain ⟨⟨h0,h1,h2⟩,he⟩:=a0c hs
 have ho:=hw.ownAt i hr
 have hnk:xs.length≤k:=by
  rcases ho.2 with ⟨e0,e1⟩ | ⟨b,cap,cur,e0,_,g1,g2,g3,g4,g5⟩
  ·omega
  ·simp only [Value.slice.injEq] at e0;omega
 refine ⟨by omega,by omega,by omega,by rw [he];simp;omega,by simp,?_⟩
 rw [Int.toNat_zero,Nat.zero_mul]
 split
 ·rfl
 ·cases p <;> simp [Addr.add]
theorem b3a {p:Option Addr} {n k:Nat} {cs:List Value} {T:TypeId} {sz:Nat} (ho:(Res.row p n k cs T sz).own w):n≤k∧k≤maxLen:=by
 rcases ho.2 with ⟨e0,e1⟩ | ⟨b,cap,cur,e0,_,g1,g2,g3,g4,g5⟩
 ·simp only [Value.slice.injEq] at e0
  obtain ⟨_,rfl,rfl⟩:=e0
  exact ⟨Nat.le_refl _,Nat.zero_le _⟩
 ·simp only [Value.slice.injEq] at e0
  obtain ⟨_,_,rfl⟩:=e0
  exact ⟨g2,g3⟩
theorem b0P {α:Type} {xs ys:List α} {n:Nat} (h:D8 xs 0 (n:Int)=some ys):ys.length=n:=by
 obtain ⟨⟨h0,h1,h2⟩,he⟩:=a0c h
 rw [he];simp;omega
theorem sub_env3 {α:Type} [Enc α] {S:Nat→Prop} {w:World} {p:Option Addr} {k:Nat} {xs ys:List α} {h':Int} (h:(SlA p xs.length k xs).p S w) (hs:D8 xs 0 h'=some ys) :
  (SlA p ys.length ys.length ys).p S w∧b3m p k 0 h' h' (Enc.sz α) p ys.length ys.length:=by
 obtain ⟨⟨h0,h1,h2⟩,he⟩:=a0c hs
 simp only [Int.toNat_zero,List.drop_zero] at he
 obtain ⟨e1,e2,e3,e4⟩:=h
 have hlen:ys.length=h'.toNat:=by rw [he];simp;omega
 refine ⟨⟨rfl,Nat.le_refl _,fun hp=>by have:=e3 hp;omega,fun a ha=>?_⟩,Int.le_refl _,h1,Int.le_refl _,by omega,by simp;omega,by simp;omega,?_⟩
 ·obtain ⟨f1,f2,f3⟩:=e4 a ha
  refine ⟨fun hn=>f1 (by omega),fun hn=>f2 (by omega),fun i hi=>?_⟩
  obtain ⟨cs,c1,c2⟩:=f3 i (by omega)
  refine ⟨cs,c1,?_⟩
  have:ys[i]=xs[i]'(by omega):=by simp [he]
  rw [this];exact c2
 ·rw [Int.toNat_zero,Nat.zero_mul]
  split
  ·rfl
  ·cases p <;> simp [Addr.add]
theorem b1K {α:Type} [Enc α] {t e:TypeId} {bytes:Nat} {z:Value} {s x:Operand} {p q:Option Addr} {k:Nat} {xs ys zs:List α} (hs:Sl N L a) (hw:Wd fx S R E w) (ht:ElT P t e (Enc.sz α) bytes z)
  (i:Nat) (hi:E[i]? = some (SlA p xs.length xs.length xs)) (j:Nat) (hj:E[j]? = some (SlA q ys.length k ys)) (hx:ev L s=some (.slice p xs.length xs.length)) (hy:ev L x=some (.slice q ys.length k)) (hm:R5 bytes xs ys=some zs)
  (hN:Nat.ble (d+1) N=true) (hwt:Wanted ops L g)
  (K:∀ p' k' S' a w',Sl N ((d,.slice p' zs.length k') :: L) a→Wd fx S' R (SlA p' zs.length k' zs :: E) w'→wpList P ops Q rest a w') :
  wpList P ops Q (⟨some d,.call { callee:=.builtin .append,args:=#[s,x],argTypes:=#[t,t] },ty,pos,af,g⟩ :: rest) a w:=by
 obtain ⟨⟨h63,hbytes⟩,rfl⟩:=b3p hm
 have hX:a9k S w p xs.length xs.length xs:=hw.envAt i hi
 have hY:a9k S w q ys.length k ys:=hw.envAt j hj
 have ht0:=ht
 obtain ⟨hu,⟨ii,hi',e1,e2,hz⟩,hzs,hpos⟩:=ht
 obtain ⟨cx,x1,x2,x3⟩:=hX.cells
 obtain ⟨cy,y1,y2,y3⟩:=hY.cells
 have lx:=x1.length
 have ly:=y1.length
 by_cases hy0:ys.length=0
 ·have hyn:ys=[]:=List.eq_nil_of_length_eq_zero hy0
  subst hyn
  have hrun:(Builtin.append_ #[t,t] ty #[.slice p xs.length xs.length,.slice q 0 k]).run P w=.ok (.slice p xs.length xs.length) w:=by
   cases p <;> cases q <;> simp [Builtin.append_,run_underlying hu,sizeOf,typeInfo,hi',Builtin.lenOf,Builtin.firstCells,storeCells,loadCells,loadCellsFrom]
  rw [List.append_nil] at K
  refine a4Q hs (v:=.slice p xs.length xs.length) (w':=w) (fun a h=>?_) hwt rfl hN fun a hs=>K _ _ _ _ _ hs (hw.addE hX)
  simp [execOp,resolve,invoke,builtin,h _ _ hx,h _ _ hy,hrun]
 ·obtain ⟨ad,rfl⟩:∃ ad,q=some ad:=by
   cases q with
   | none=>exact absurd (y3 rfl).1 hy0
   | some ad=>exact ⟨ad,rfl⟩
  obtain ⟨y4,y5⟩:=y2 ad rfl
  have hsp:=y4 (by omega)
  obtain ⟨bq,oq,sq⟩:=ad
  simp only at hsp
  subst hsp
  have hnews:∀ r u,cy[r]? = some u→w.drew.cell? ((⟨bq,oq,none⟩:Addr).add r)=some u:=fun r u hr=>by rw [addr_add];exact y5 r u hr
  have hge:∀ (w1:World),grownCap w1 (xs.length+ys.length) xs.length e ≥ xs.length+ys.length:=fun w1=>grownCap_ge w1 _ _ e
  have hsm:xs.length+ys.length≤9223372036854775807:=by simp only [maxLen] at h63;omega
  obtain ⟨kk,W,hrun,hkk,hW⟩:∃ kk W,(Builtin.append_ #[t,t] ty #[.slice p xs.length xs.length,.slice (some ⟨bq,oq,none⟩) ys.length k]).run P w=.ok (.slice (some ⟨w.heap.size,0,none⟩) (xs.length+ys.length) kk) W∧xs.length+ys.length≤kk ∧
    ∃ zc,W=w.drew.alloc (.cells (cx.toArray ++ cy.toArray ++ zc) e):=by
   cases p with
   | none=>
    have h0:=(x3 rfl).1
    have hx0:cx=[]:=List.eq_nil_of_length_eq_zero (by rw [lx,h0,Nat.zero_mul])
    have hr:=run_append_nil (P:=P) w t ty e ii z hu hi' hz ⟨bq,oq,none⟩ ys.length k cy (by rw [e1];exact ly) (fun r u hr=>by rw [addr_add];exact y5 r u hr) (by omega) (by omega) (by rw [e2];rw [h0,Nat.zero_add] at hbytes;omega)
    rw [h0,Nat.zero_add]
    refine ⟨_,_,hr,?_,?_⟩
    ·have:=grownCap_ge w ys.length 0 e;omega
    ·exact ⟨Builtin.zeroCells z.cells (grownCap w ys.length 0 e - ys.length),by rw [hx0];simp⟩
   | some ax=>
    obtain ⟨x4,x5⟩:=x2 ax rfl
    have holds:∀ r u,cx[r]? = some u→w.cell? (ax.add r)=some u:=fun r u hr=>by
     have hxp:0<xs.length:=by
      apply Nat.pos_of_ne_zero;intro h0
      have:cx=[]:=List.eq_nil_of_length_eq_zero (by rw [lx,h0,Nat.zero_mul])
      rw [this] at hr;cases hr
     obtain ⟨bp,op,sp⟩:=ax
     have hsp:=x4 (by omega)
     simp only at hsp
     subst hsp
     rw [addr_add]
     exact x5 r u hr
    have hr:=run_append_grow (P:=P) w t ty e ii z hu hi' hz ax xs.length xs.length cx (by rw [e1];exact lx) holds ⟨bq,oq,none⟩ ys.length k cy (by rw [e1];exact ly) (fun r u hr=>by rw [addr_add];exact y5 r u hr) (by omega) (by omega) (by rw [e2];exact growslice_fits (by omega) hbytes)
    exact ⟨_,_,hr,hge _,_,rfl⟩
  obtain ⟨zc,rfl⟩:=hW
  have hrd:RdL S w (cx ++ cy) (xs ++ ys):=x1.append y1
  have hrl:=hrd.length
  have hg:Grew w (w.drew.alloc (.cells (cx.toArray ++ cy.toArray ++ zc) e)) none:=⟨⟨rfl,rfl,rfl,by simp,fun b hb _=>heap_alloc_old w.drew _ b hb⟩,Nat.le_succ _⟩
  have hw2:=(hw.addE (e:=j6 (cx ++ cy) (xs ++ ys)) hrd).new (r:=.box w.heap.size (cx ++ cy ++ zc.toList) e) hg (by
   show _=_
   have:=heap_alloc_new w.drew (.cells (cx.toArray ++ cy.toArray ++ zc) e)
   refine this.trans ?_
   simp) (fun b hb=>by simp only [Res.blk,Option.some.injEq] at hb;subst hb;simp)
  refine a4Q hs (v:=.slice (some ⟨w.heap.size,0,none⟩) (xs.length+ys.length) kk) (w':=w.drew.alloc (.cells (cx.toArray ++ cy.toArray ++ zc) e)) (fun a h=>?_) hwt rfl hN fun a hs=>?_
  ·simp [execOp,resolve,invoke,builtin,h _ _ hx,h _ _ hy,hrun]
  ·have hl2:(xs ++ ys).length=xs.length+ys.length:=List.length_append
   have hw3:=hw2.share 0 rfl (fun b=>S b∨b=w.heap.size) (fun b=>by simp [Res.blk,eq_comm])
   have hR:RdL (fun b=>S b∨b=w.heap.size) _ (cx ++ cy) (xs ++ ys):=hw3.envAt 0 rfl
   have hcellN:∀ r u,(cx ++ cy)[r]? = some u→(w.drew.alloc (.cells (cx.toArray ++ cy.toArray ++ zc) e)).cell? ⟨w.heap.size,r,none⟩=some u:=fun r u hr=>by
    refine a2m (cs:=cx ++ cy ++ zc.toList) (hw2.ownAt 0 rfl) ?_
    have hr1:=(List.getElem?_eq_some_iff.1 hr).1
    rw [List.getElem?_append_left hr1];exact hr
   have hrow:a9k (fun b=>S b∨b=w.heap.size) (w.drew.alloc (.cells (cx.toArray ++ cy.toArray ++ zc) e)) (some ⟨w.heap.size,0,none⟩) (xs ++ ys).length kk (xs ++ ys):=by
    refine ⟨rfl,by omega,(fun h=>by cases h),fun a ha=>?_⟩
    cases ha
    refine ⟨fun _=>rfl,fun _=>.inr rfl,fun r hr=>⟨_,?_,hR.get r hr⟩⟩
    intro q u hq
    simp only [Nat.zero_add]
    refine hcellN _ _ ?_
    rw [List.getElem?_take] at hq
    split at hq
    ·rw [List.getElem?_drop] at hq;exact hq
    ·cases hq
   rw [← hl2] at hs
   exact K _ _ _ a _ hs ((hw3.setE E (a3Z.of ((List.range E.length).map (·+1)) (by
    rw [List.map_map]
    apply List.ext_getElem?
    intro n
    simp only [List.getElem?_map,List.getElem?_range,Function.comp]
    by_cases hn:n<E.length
    ·simp [hn]
    ·simp [hn]))).addE hrow)
theorem b0V {α:Type} [Enc α] {t e:TypeId} {bytes:Nat} {z:Value} {s x:Operand} {p p':Option Addr} {k k':Nat} {cs:List Value} {xs l ys mid xs':List α} {i j:Int} (hs:Sl N L a) (hw:Wd fx S R E w)
  (ir:Nat) (hr:R[ir]? = some (.row p xs.length k cs e (Enc.sz α))) (ie:Nat) (hE:E[ie]? = some (j6 cs xs)) (ht:ElT P t e (Enc.sz α) bytes z) (hmid:D8 xs i j=some mid) (hij:(i == j)=false) (hl:D8 xs 0 i=some l) (hy:D8 xs j (xs.length:Int)=some ys)
  (hso:a3t p xs.length k j (xs.length:Int) (Enc.sz α) p' ys.length k') (hx:ev L s=some (.slice p l.length k)) (hy':ev L x=some (.slice p' ys.length k')) (he:some (l ++ ys ++ xs.drop (l ++ ys).length)=some xs')
  (hN:Nat.ble (d+1) N=true) (hwt:Wanted ops L g)
  (K:∀ cs' a w',Sl N ((d,.slice p (l ++ ys).length k) :: L) a→Wd fx S (R.set ir (.row p xs'.length k cs' e (Enc.sz α))) (j6 cs' xs' :: E) w'→wpList P ops Q rest a w') :
  wpList P ops Q (⟨some d,.call { callee:=.builtin .append,args:=#[s,x],argTypes:=#[t,t] },ty,pos,af,g⟩ :: rest) a w:=by
 cases he
 obtain ⟨⟨a0,a1,a2⟩,-⟩:=a0c hmid
 obtain ⟨⟨b0,b1,b2⟩,hl'⟩:=a0c hl
 obtain ⟨⟨c0,c1,c2⟩,hy2⟩:=a0c hy
 have hne:i≠j:=by simpa using hij
 simp only [Int.toNat_zero,List.drop_zero] at hl'
 have hyd:ys=xs.drop j.toNat:=by rw [hy2];simp
 have ll:l.length=i.toNat:=by rw [hl'];simp;omega
 have ly:ys.length=xs.length - j.toNat:=by rw [hyd];simp
 have ho:=hw.ownAt ir hr
 have hX:RdL S w cs xs:=hw.envAt ie hE
 have hcl:=hX.length
 obtain ⟨hu,⟨ii,hi',e1,e2,hz⟩,hzs,hpos⟩:=ht
 obtain ⟨b,rfl⟩:=a2i ho (by omega)
 obtain ⟨g0,hown'⟩:=ho
 rcases hown' with ⟨e0,_⟩ | ⟨b',cap,cur,e0,g1,g2,g3,g4,g5,g6⟩
 ·simp at e0
 simp only [Value.slice.injEq,Option.some.injEq,Addr.mk.injEq] at e0
 obtain ⟨⟨rfl,-,-⟩,-,rfl⟩:=e0
 obtain ⟨-,-,-,-,-,hp'⟩:=hso
 have hL:RdL S w (cs.take (l.length * Enc.sz α)) l:=by rw [ll,hl'];exact hX.tk _
 have hYr:RdL S w (cs.drop (j.toNat * Enc.sz α)) ys:=by rw [hyd];exact hX.dp _
 have lnews:=hYr.length
 have hcell:∀ r u,(cs.drop (j.toNat * Enc.sz α))[r]? = some u→∃ ad,p'=some ad∧w.cell? (ad.add r)=some u:=fun r u hru=>by
  rw [List.getElem?_drop] at hru
  have hr1:=(List.getElem?_eq_some_iff.1 hru).1
  have hkj:k≠j.toNat:=by
   intro e;have:xs.length=j.toNat:=by omega
   rw [hcl,this] at hr1;omega
  rw [if_neg hkj] at hp'
  refine ⟨⟨b,j.toNat * Enc.sz α,none⟩,by rw [hp'];simp only [Option.map_some,addr_add,Nat.zero_add],?_⟩
  rw [addr_add]
  exact a2L (n:=xs.length) (k:=k) (T:=e) (sz:=Enc.sz α) ⟨g0,.inr ⟨b,k,cur,rfl,g1,g2,g3,g4,g5,g6⟩⟩ hru
 have h1:∀ u∈cs.drop (j.toNat * Enc.sz α),u.oneCell'=true:=hYr.one
 obtain ⟨ad,had⟩:∃ ad,p'=some ad:=by
  rw [hp'];split <;> simp
 subst had
 have hroom:l.length+ys.length≤k:=by omega
 have hmul:(l.length+ys.length) * Enc.sz α≤xs.length * Enc.sz α:=Nat.mul_le_mul_right _ (by omega)
 have hmul2:xs.length * Enc.sz α≤k * Enc.sz α:=Nat.mul_le_mul_right _ (by omega)
 have hadd:(l.length+ys.length) * Enc.sz α=l.length * Enc.sz α+ys.length * Enc.sz α:=Nat.add_mul _ _ _
 have hrun:=run_append_room (P:=P) w t ty e ii hu hi' b l.length k cur g2 ad ys.length k' (cs.drop (j.toNat * Enc.sz α)) (by rw [e1];exact lnews) (fun r u hru=>by obtain ⟨ad',e,h⟩:=hcell r u hru;cases e;exact h) h1 hroom (by rw [e1];omega)
 rw [e1] at hrun
 have hcur:cur.toList.length=cur.size:=Array.length_toList
 have hlen':(l ++ ys ++ xs.drop (l ++ ys).length).length=xs.length:=by simp;omega
 have lL:=hL.length
 have htail:RdL S w (cs.drop ((l ++ ys).length * Enc.sz α)) (xs.drop (l ++ ys).length):=hX.dp _
 have hrd:=(hL.append hYr).append htail
 have hrl:=hrd.length
 refine a4Q hs (v:=.slice (some ⟨b,0,none⟩) (l ++ ys).length k) (w':=w.setRow b (cur.toList.take (l.length * Enc.sz α) ++ cs.drop (j.toNat * Enc.sz α) ++ cur.toList.drop (l.length * Enc.sz α+(cs.drop (j.toNat * Enc.sz α)).length)).toArray) (fun a h=>?_) hwt rfl hN fun a hs=>?_
 ·simp [execOp,resolve,invoke,builtin,h _ _ hx,h _ _ hy',hrun]
 ·refine K _ a _ hs ((hw.addE (e:=j6 _ _) hrd).put ir hr ⟨⟨rfl,rfl,rfl,by simp,fun j _ hk=>setRow_other w b j _ (fun e=>hk (by simp [Res.blk,e]))⟩,Nat.le_refl _⟩ ⟨hrl,.inr ⟨b,k,_,rfl,Nat.zero_le _,setRow_heap w b cur _ e _ g2,by omega,g4,?_,?_⟩⟩ (fun b' hb=>⟨.inl hb,by simp only [Res.blk,Option.map_some,Option.some.injEq] at hb;subst hb;simpa using (Array.getElem?_eq_some_iff.1 g2).1⟩))
  ·simp only [List.size_toArray,List.length_append,List.length_take,List.length_drop,hcur]
   simp only [List.length_drop] at lnews
   omega
  ·rw [hlen',List.toList_toArray,take_mid (b:=ys.length * Enc.sz α) lnews (by omega) (by omega),g6]
   congr 2
   rw [List.length_append,hadd,lnews]
end steps
end Go.Proofs.YteanekphncdhiaaGreat.Wk
namespace Go.Proofs.YteanekphncdhiaaGreat.Wk
open Go Go.RowKit Go.Proofs.YteanekphncdhiaaGreat.Sh
set_option linter.unusedSimpArgs false
set_option linter.unusedVariables false
section steps
variable {P:Program} {ops:Array Oper} {Q:Exit→Act→World→Prop} {rest:List Oper} {N:Nat} {L:C8} {a:Act} {w:World} {fx:Fx} {S:Nat→Prop} {R:List Res} {E:List Asrt}
variable {ty:TypeId} {pos:String} {af:Array Edge} {g:Option (Nat × Bool)} {d:Nat}
theorem b3J {α:Type} [Enc α] {b:Nat} {k:Nat} {cs:List Value} {T:TypeId} {xs ys:List α} {l h':Int} (hw:Wd fx S R E w) (i:Nat) (hr:R[i]? = some (.row (some ⟨b,0,none⟩) xs.length k cs T (Enc.sz α))) (h:D8 xs l h'=some ys) :
  ∃ o k',a3t (some ⟨b,0,none⟩) xs.length k l h' (Enc.sz α) (some ⟨b,o,none⟩) ys.length k':=by
 obtain ⟨p',k',hs⟩:=U7 hw i hr h
 have hs':=hs
 obtain ⟨h1,h2,h3,h4,h5,h6⟩:=hs'
 by_cases hk:k=l.toNat
 ·rw [if_pos hk] at h6
  subst h6
  exact ⟨0,k',hs⟩
 ·rw [if_neg hk] at h6
  simp only [Option.map_some,addr_add] at h6
  subst h6
  exact ⟨_,k',hs⟩
theorem Wd.elemLK {α:Type} [Enc α] (hw:Wd fx S R E w) (i:Nat) {b o n n' k k':Nat} {cs:List Value} {T:TypeId} {xs:List α} {lo hi:Int} (hr:R[i]? = some (.row (some ⟨b,0,none⟩) xs.length k cs T (Enc.sz α))) (ie:Nat) (hE:E[ie]? = some (j6 cs xs))
  (hso:a3t (some ⟨b,0,none⟩) n k lo hi (Enc.sz α) (some ⟨b,o,none⟩) n' k') {j:Int} {x:α} (hx:ixV xs lo n' j=some x) :
  ∃ q es,(0≤j∧j<(n':Int))∧o+j.toNat * Enc.sz α=q∧(cs.drop q).take (Enc.sz α)=es∧Enc.rd S w es x:=by
 obtain ⟨h0,h1,hx⟩:=ixV_t hx
 obtain ⟨q,es,h2,h3,h4,h5⟩:=hw.elemRK i hr ie hE hx
 refine ⟨q,es,⟨h0,h1⟩,?_,h4,h5⟩
 have ha:=a3g hso rfl (by omega)
 simp only [Option.some.injEq,Addr.mk.injEq] at ha
 obtain ⟨_,ha,_⟩:=ha
 rw [ha,← h3,Nat.zero_add,← Nat.add_mul]
 congr 1
 have:=hso.1
 omega
end steps
end Go.Proofs.YteanekphncdhiaaGreat.Wk

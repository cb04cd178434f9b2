/- A library for walks over any program: maps of the call's own, by keys that are structs, with elements of any kind. No statement of the seat is used here. -/
import Derived.Test.YteanekphncdhiaaGreatLa1
import Derived.Maps.OwnSet
import Derived.DeepKeys4
namespace Go.Proofs.YteanekphncdhiaaGreat.Wk
open Go Go.RowKit Go.Proofs.YteanekphncdhiaaGreat.Sh
open Go.ChangeMaps Go.MapKept
open Go.Maps (Keyed)
set_option linter.unusedSimpArgs false
set_option linter.unusedVariables false
def anyE (v:Value):Option (DataW Value × List MemPlace):=some (.held v,[])
class MsKey (κ:Type) extends MkKey κ where
  val:κ→Value
structure KOK (κ:Type) [MsKey κ] (P:Program) (kt:TypeId):Prop where
  K:Keyed P kt
  of:∀ x:κ,MkKey.ok x→∃ l,keyOf P kt (MsKey.val x)=some l
  inj:∀ {x y:κ},MsKey.val x=MsKey.val y→x=y
structure KIs {κ:Type} [MsKey κ] (P:Program) (kt:TypeId) (z:Value) (f:κ→Value) (D:DataW Value):Prop where
  map:Maps.IsMap D
  at_:∀ x l,keyOf P kt (MsKey.val x)=some l→D.atKey l (.held z)=.held (f x)
def mkP {κ:Type} [MsKey κ] (P:Program) (kt:TypeId) (z:Value) (n:Nat) (f:κ→Value) (o:Obj):Prop:=∃ D,KIs P kt z f D∧∀ (w:World) (b:Nat),w.heap[b]? = some o→w.ownsMap P kt anyE b n D
abbrev mkR {κ:Type} [MsKey κ] (P:Program) (kt:TypeId) (z:Value) (n:Nat) (f:κ→Value) (b:Nat):Res:=.ob b (mkP P kt z n f)
theorem own_anyV {P:Program} {k:TypeId} {R:Value→Option (DataW Value × List MemPlace)} {b n:Nat} {D:DataW Value} {w:World} (h:w.ownsMap P k R b n D):∃ o,w.heap[b]? = some o∧∀ (w:World) (b:Nat),w.heap[b]? = some o→w.ownsMap P k R b n D:=by
  obtain ⟨es,clock,hb,h1⟩:=h
  exact ⟨_,hb,fun w b hw=>⟨es,clock,hw,h1⟩⟩
theorem mkR_of {κ:Type} [MsKey κ] {P:Program} {kt:TypeId} {z:Value} {n:Nat} {f:κ→Value} {b:Nat} {D:DataW Value} {w:World} (h:w.ownsMap P kt anyE b n D) (hm:KIs P kt z f D):(mkR P kt z n f b).own w:=by
  obtain ⟨o,h1,h2⟩:=own_anyV h
  exact ⟨o,h1,D,hm,h2⟩
theorem mkR_t {κ:Type} [MsKey κ] {P:Program} {kt:TypeId} {z:Value} {n:Nat} {f:κ→Value} {b:Nat} {w:World} (h:(mkR P kt z n f b).own w):∃ D,w.ownsMap P kt anyE b n D∧KIs P kt z f D:=by
  obtain ⟨o,h1,D,h2,h3⟩:=h
  exact ⟨D,h3 w b h1,h2⟩
def MkA {κ α:Type} [Enc α] (f:κ→Value) (m:Mk κ α):Asrt:=⟨fun S w=>∀ x,Enc.rd S w [f x] (m.at_ x),fun hk h x=>Enc.mono hk (h x)⟩
section steps
variable {P:Program} {ops:Array Oper} {Q:Exit→Act→World→Prop} {rest:List Oper} {N:Nat} {L:C8} {a:Act} {w:World} {fx:Fx} {S:Nat→Prop} {R:List Res} {E:List Asrt}
variable {ty:TypeId} {pos:String} {af:Array Edge} {g:Option (Nat × Bool)} {d:Nat}
theorem b3O {κ α:Type} [MsKey κ] [Enc α] {t kt:TypeId} {z:Value} {zd:α} (hs:Sl N L a) (hw:Wd fx S R E w) (hN:Nat.ble (d+1) N=true) (hwt:Wanted ops L g) (hz:∀ w:World,Enc.rd S w [z] zd)
    (k:∀ b (f:κ→Value) a w,Sl N ((d,.map (some b)) :: L) a→Wd fx S (mkR P kt z 0 f b :: R) (MkA f (⟨0,fun _=>zd⟩:Mk κ α) :: E) w→wpList P ops Q rest a w):wpList P ops Q (⟨some d,.makeMap t none,ty,pos,af,g⟩ :: rest) a w:=by
  refine a4Q hs (v:=.map (some w.heap.size)) (w':=w.alloc (.map #[] 0)) (fun a h=>?_) hwt rfl hN fun a hs=>?_
  · simp [execOp,run_makeMap]
  · have h1:Wd fx S (mkR (κ:=κ) P kt z 0 (fun _=>z) w.heap.size :: R) E (w.alloc (.map #[] 0)):=hw.new (a5n _ _ _) (mkR_of (World.ownsMap_made w P kt anyE) ⟨Maps.isMap_empty,fun x l _=>rfl⟩) (fun b hb=>by simp only [Res.blk,Option.some.injEq] at hb;subst hb;simp)
    exact k _ _ _ _ hs (h1.addE fun x=>hz _)
theorem look_any {κ:Type} [MsKey κ] {t kt et:TypeId} {z:Value} {n b:Nat} {f:κ→Value} {s:κ} (ho:(mkR P kt z n f b).own w) (hK:KOK κ P kt) (ht:P.underlying t=some (.map kt et)) (hz:b1o P et z) (hok:MkKey.ok s) :
    (Instr.lookup t (.map (some b)) (MsKey.val s) false).run P w=.ok (f s) w:=by
  obtain ⟨D,hD,hm⟩:=mkR_t ho
  obtain ⟨l,hl⟩:=hK.of s hok
  obtain ⟨v,ps,hrun,hv⟩:=hD.lookup hK.K ht (hz w) (show anyE z=some (.held z,[]) from rfl) hl
  rw [hm.at_ s l hl] at hv
  simp only [anyE,Option.some.injEq,Prod.mk.injEq,DataW.held.injEq] at hv
  rw [hrun,hv.1]
theorem b3h {κ α:Type} [MsKey κ] [Enc α] {t kt et:TypeId} {z:Value} {x y:Operand} {n b:Nat} {f:κ→Value} {m:Mk κ (List α)} {s:κ} {v:List α} (hs:Sl N L a) (hw:Wd fx S R E w) (hN:Nat.ble (d+1) N=true) (hwt:Wanted ops L g)
    (ho:(mkR P kt z n f b).own w) (hm:(MkA f m).p S w) (hK:KOK κ P kt) (ht:P.underlying t=some (.map kt et)) (hz:b1o P et z) (hx:ev L x=some (.map (some b))) (hy:ev L y=some (MsKey.val s)) (hg:m.get s=some v)
    (k:∀ p c a,Sl N ((d,.slice p v.length c) :: L) a→Wd fx S R (SlA p v.length c v :: E) w→wpList P ops Q rest a w):wpList P ops Q (⟨some d,.lookup t x y false,ty,pos,af,g⟩ :: rest) a w:=by
  obtain ⟨hok,rfl⟩:=Mk.get_t hg
  have hr:=look_any ho hK ht hz hok
  obtain ⟨v0,h1,p,n0,c,h2,hsl⟩:=hm s
  obtain rfl:=hsl.1
  simp only [List.cons.injEq,and_true] at h1
  rw [h1,h2] at hr
  refine a4Q hs (v:=.slice p (m.at_ s).length c) (w':=w) (fun a h=>?_) hwt rfl hN fun a hs=>?_
  · simp [execOp,h _ _ hx,h _ _ hy,hr,Result.andThen]
  · exact k _ _ _ hs (hw.addE hsl)
theorem w_updK {κ α:Type} [MsKey κ] [Enc α] {t kt et:TypeId} {z vv:Value} {x y u:Operand} {b:Nat} {f:κ→Value} {m m':Mk κ α} {s:κ} {v:α} (hs:Sl N L a) (hw:Wd fx S R E w) (i:Nat) (hr:R[i]? = some (mkR P kt z m.n f b)) (hm:(MkA f m).p S w) (hK:KOK κ P kt) (ht:P.underlying t=some (.map kt et))
    (hx:ev L x=some (.map (some b))) (hy:ev L y=some (MsKey.val s)) (hv:ev L u=some vv) (hvv:Enc.rd S w [vv] v) (hp:m.put s v=some m') (hwt:Wanted ops L g)
    (k:∀ (f':κ→Value) a w,Sl N L a→Wd fx S (R.set i (mkR P kt z m'.n f' b)) (MkA f' m' :: E) w→wpList P ops Q rest a w):wpList P ops Q (⟨none,.mapUpdate t x y u,ty,pos,af,g⟩ :: rest) a w:=by
  obtain ⟨⟨hok,hn⟩,p1,p2,p3⟩:=Mk.put_t hp
  obtain ⟨D,hD,hKI⟩:=mkR_t (hw.ownAt i hr)
  obtain ⟨l,hl⟩:=hK.of s hok
  obtain ⟨w',hrun,hD',htn⟩:=hD.store hK.K ht (Nat.lt_of_lt_of_le hn (by decide)) hl (show anyE vv=some (.held vv,[]) from rfl)
  have hgr:Grew w w' (some b):=⟨htn.grown,by obtain ⟨_,_,_,_,_,rfl⟩:=htn;exact Nat.le_refl _⟩
  refine b3L hs (w':=w') (fun a h=>?_) hwt rfl fun a hs=>?_
  · simp [execOp,h _ _ hx,h _ _ hy,h _ _ hv,hrun,Result.andThen]
  · classical
    have h0:Wd fx S R (MkA (fun y=>if y=s then vv else f y) m' :: E) w:=hw.addE fun y=>by
      show Enc.rd S w [if y=s then vv else f y] (m'.at_ y)
      by_cases hy:y=s
      · subst hy;rw [if_pos rfl,p2];exact hvv
      · rw [if_neg hy,p3 y hy];exact hm y
    rw [← p1] at hD'
    refine k _ _ _ hs (h0.put i hr (r':=mkR P kt z m'.n (fun y=>if y=s then vv else f y) b) hgr (mkR_of hD' ⟨hKI.map.put _ _,fun y l' hl'=>(?_:_=DataW.held (if y=s then vv else f y))⟩) (fun c hc=>⟨.inl hc,?_⟩))
    · by_cases hy:y=s
      · subst hy
        rw [hl] at hl'
        obtain rfl:=Option.some.inj hl'
        rw [if_pos rfl]
        exact Maps.atKey_put_same hKI.map (hK.K.key hl) _ _
      · rw [if_neg hy,Maps.atKey_put_other (fun e=>hy (hK.inj (hK.K.inj (show keyOf P kt (MsKey.val y)=some l by rw [← e];exact hl') hl)))]
        exact hKI.at_ y l' hl'
    · have:=(hw.at_ _ (List.mem_of_getElem? hr) c hc).2.1
      exact Nat.lt_of_lt_of_le this hgr.size
end steps
theorem key_strs {P:Program} {k:TypeId} {f0 f1 f2 f3:Field} (hu:P.underlying k=some (.struct #[f0,f1,f2,f3])) (hkt:P.keyType k=true) (hc:P.cellsOf k=4) (hnm:(#[f0,f1,f2,f3]:Array Field).all (·.name != "_")=true)
    (hsz:∃ m,P.types.size=m+1) (u0:P.underlying f0.type=some .string∧f0.offset=0∧P.cellsOf f0.type=1) (u1:P.underlying f1.type=some .string∧f1.offset=1∧P.cellsOf f1.type=1) (u2:P.underlying f2.type=some .string∧f2.offset=2∧P.cellsOf f2.type=1) (u3:P.underlying f3.type=some .string∧f3.offset=3∧P.cellsOf f3.type=1)
    {a b c d:ByteArray} (ha:a.size≤maxLen) (hb:b.size≤maxLen) (hc':c.size≤maxLen) (hd:d.size≤maxLen):∃ l,keyOf P k (.agg #[.string a,.string b,.string c,.string d])=some l:=by
  obtain ⟨m,hm⟩:=hsz
  unfold keyOf
  simp only [hu]
  rw [if_pos (by simp [hkt,Value.formed,hu,hc]),hm]
  unfold Program.keyLits
  simp only [hu,Value.cells]
  rw [if_pos ⟨by rw [hc];rfl,hnm⟩]
  simp [u0,u1,u2,u3,Program.keyLits,ha,hb,hc',hd]
end Go.Proofs.YteanekphncdhiaaGreat.Wk

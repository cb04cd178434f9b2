/- The statement RevisionLaws holds: the law returns true at every input, and its arguments read as before. -/
import Derived.Test.YteanekphncdhiaaGreatRows
import Derived.Test.YteanekphncdhiaaGreatWRevisionLaws4
import Derived.Test.YteanekphncdhiaaGreatLw2
import Derived.Test.YteanekphncdhiaaGreatLc1
import Derived.KernelRfl
namespace Go.Proofs.YteanekphncdhiaaGreat.revisionLaws
open Go Go.RowKit Go.Proofs Go.Proofs.YteanekphncdhiaaGreat.Sh Go.Proofs.YteanekphncdhiaaGreat.Wk
open Go.ChangeShapes Go.WideShapes Go.ChangeAt
set_option linter.unusedVariables false
theorem own:ownKnob Tryz.prog.godebug=none:=by kernel_rfl
theorem laidOut:laidOutB Tryz.prog=true:=by kernel_rfl
set_option maxRecDepth 100000 in
theorem lifted (os:Os) (started:os.Started) (H:Type) (enc:TypeId × Value→H) :
    ReturnsInHanded {} Tryz.checked os 6 .any (Rows.revisionLawsSpec.pre6 enc Tryz.prog Tryz.f6 Rows.revisionLawsRow.domain false) (Rows.revisionLawsSpec.post enc Tryz.prog Tryz.f6 false true false false):=by
  refine returnsInHanded_of_change_sized (C:=Tryz.checked) own started (by kernel_rfl) Tryz.func6
    (ChangeSpec.witness6 (enc:=enc) (C:=Tryz.checked) false ⟨#[],#[.slice none 0 0],[]⟩ 8 (by kernel_rfl) (by kernel_rfl) (by kernel_rfl) (by kernel_rfl)) ?_
  intro W base args ds gs before hval0 hW hcnd hsz0 _
  have hval:∀ (j:Nat) t v,Tryz.f6.params[j]? = some t→args[j]? = some v→Value.okWide Tryz.prog W .any base t v:=hval0
  have hW':=hW
  obtain ⟨p,q,hA0,hV,rfl,hfz,hnd⟩:=hW
  have hA:DataW.TrodAll enc Tryz.prog W 0 (fun _=>true) true Tryz.f6.params.toList args.toList ds p:=hA0
  rw [Tryz.params6] at hA hval
  obtain ⟨v0,vs0,d0,ds0,p0,q0,hargs,rfl,rfl,h0,r0⟩:=trodAll_cons hA
  obtain ⟨rfl,rfl,rfl⟩:=trodAll_nil r0
  obtain rfl:args=#[v0]:=by cases args;simp_all
  obtain ⟨rfl,rfl⟩:=trodVars_none hV
  obtain ⟨a0,len0,cap0,rfl⟩:=okWide_slice Tryz.underlying22 (hval 0 22 v0 rfl rfl)
  have k0:=h0
  have lt0:∀ x∈p0,x.block<W.heap.size:=by obtain ⟨m,hm⟩:=k0;exact DataW.trod_lt m _ _ _ hm
  obtain ⟨l0,rfl,s0,b0⟩:∃ l:(List Int),len0=l.length∧(SlA a0 l.length cap0 l).p (fun b=>b<W.heap.size) W∧((l.length:Int)≤140737488355328∧∀ y∈l,(-9223372036854775808≤y∧y≤9223372036854775807)):=by
    obtain ⟨fuel,hf⟩:=k0
    obtain ⟨l,⟨p,n,k,hv,hs⟩,hg⟩:=OpnT.leaf (c:=.slice a0 len0 cap0) (W:=W) (b4N Tryz.underlying22 (by kernel_rfl) (by decide) (by kernel_rfl) (opn_int Tryz.underlying3)) hf (fun n hn=>by have:=List.all_eq_true.1 hsz0 n (DataW.weights_mem_each (j:=0) (t:=22) (by rfl) (by rfl) n hn);simpa using this)
    cases hv
    obtain rfl:=hs.1
    exact ⟨l,rfl,hs,hg⟩
  clear hA0 hval0
  refine (a6H (w0:=W) (S0:=fun b=>b<W.heap.size) (a5M l0 b0) (fun _ h=>h) s0).mono fun e W' ⟨v,S',he,hp,hv⟩=>?_
  subst he
  have hv:v=.bool true:=hv
  subst hv
  have bel:=hp.below
  exact ⟨_,rfl,_,_,_,[],_,[],hW',trodAll_mk1 (shut_bool Tryz.underlying4 _),(trodAll_cons_mk (Below.trod laidOut (by kernel_rfl) (of_decide_eq_true (by kernel_rfl)) k0 bel lt0) trodAll_mk0),rfl,bel.frame _,fun h=>by cases h⟩
theorem over:Rows.revisionLawsRow.holds Tryz.pinned (OpenSpec.ofChange Rows.revisionLawsSpec):=
  OpenClaim.holds_of_wide 6 Tryz.f6 rfl rfl rfl rfl rfl rfl rfl ⟨rfl,rfl,rfl,rfl,rfl⟩ rfl rfl rfl rfl rfl (by kernel_rfl) Tryz.func6 (by kernel_rfl)
    (of_decide_eq_true (by kernel_rfl)) (by unfold Func.isWrapper;first | (rw [if_pos (by decide +kernel)];kernel_rfl) | (rw [if_neg (by decide +kernel)];exact ⟨rfl,rfl⟩))
    (fun os started H enc _=>lifted os started H enc)
theorem proved:Rows.RevisionLawsSaid:=over
end Go.Proofs.YteanekphncdhiaaGreat.revisionLaws

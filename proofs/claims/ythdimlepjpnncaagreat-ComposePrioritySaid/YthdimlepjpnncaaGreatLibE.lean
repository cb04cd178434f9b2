/- A library for walks over any program: sharing, calls by contract, loops, the end of a function. No statement of the seat is used here. -/
import Derived.Test.YthdimlepjpnncaaGreatLibD
import Derived.OrdersHeld
import Derived.Still
namespace Go.Proofs.YthdimlepjpnncaaGreat.Wk
open Go Go.RowKit Go.Proofs.YthdimlepjpnncaaGreat.Sh
set_option linter.unusedSimpArgs false
set_option linter.unusedVariables false

/-- what a call does to the world, but for its result: nothing that was there has turned, but the blocks X; what is shared behind it was shared before, or is new -/
structure PostW (X : List Nat) (w : World) (S : Nat → Prop) (w' : World) (S' : Nat → Prop) : Prop where
  os : w'.os = w.os
  tape : w'.tape = w.tape
  output : w'.output = w.output
  drawn : w.drawn ≤ w'.drawn
  size : w.heap.size ≤ w'.heap.size
  keep : ∀ b, b < w.heap.size → b ∉ X → w'.heap[b]? = w.heap[b]?
  sub : ∀ b, S b → S' b
  sin : ∀ b, S' b → b < w'.heap.size ∧ (S b ∨ w.heap.size ≤ b ∨ b ∈ X)

/-- a contract's end -/
def Ret (X : List Nat) (w : World) (S : Nat → Prop) (rd : (Nat → Prop) → World → Value → Prop) : Ending → World → Prop :=
  fun e w' => ∃ v S', e = .returned v ∧ PostW X w S w' S' ∧ rd S' w' v

/-- the blocks of what is owned -/
def blks (R : List Res) : List Nat := R.flatMap fun r => r.blk.toList
theorem mem_blks {R : List Res} {b : Nat} : b ∈ blks R ↔ ∃ r, r ∈ R ∧ r.blk = some b := by
  simp only [blks, List.mem_flatMap, Option.mem_toList, Option.mem_def]
/-- what a call is handed to write -/
structure Ins (S : Nat → Prop) (w : World) (R : List Res) : Prop where
  own : ∀ r, r ∈ R → r.own w
  at_ : ∀ r, r ∈ R → ∀ b, r.blk = some b → ¬ S b ∧ b < w.heap.size
  apart : R.Pairwise (fun r s => ∀ b, r.blk = some b → s.blk ≠ some b)
/-- what it hands back -/
structure Outs (X : List Nat) (w : World) (S' : Nat → Prop) (w' : World) (R : List Res) : Prop where
  own : ∀ r, r ∈ R → r.own w'
  at_ : ∀ r, r ∈ R → ∀ b, r.blk = some b → ¬ S' b ∧ b < w'.heap.size ∧ (b ∈ X ∨ w.heap.size ≤ b)
  apart : R.Pairwise (fun r s => ∀ b, r.blk = some b → s.blk ≠ some b)
theorem Res.own_keep {w w' : World} {r : Res} (ho : r.own w) (hb : ∀ b, r.blk = some b → w'.heap[b]? = w.heap[b]?) : r.own w' := by
  cases r with
  | box b cs T => show w'.heap[b]? = _; rw [hb b rfl]; exact ho
  | row p n k cs T sz =>
    obtain ⟨hl, ho⟩ := ho
    refine ⟨hl, ?_⟩
    rcases ho with ho | ⟨g, cap, cur, e1, e2, e3, e4⟩
    · exact .inl ho
    · refine .inr ⟨g, cap, cur, e1, e2, ?_, e4⟩
      rw [hb g (by simp only [Value.slice.injEq] at e1; simp [Res.blk, e1.1])]
      exact e3
  | mp b n P kt et z l =>
    obtain ⟨D, ⟨es, clock, h3, h4⟩, h5⟩ := ho
    exact ⟨D, ⟨es, clock, (hb b rfl).trans h3, h4⟩, h5⟩
  | rowo p n k cs T sz =>
    obtain ⟨hl, ho⟩ := ho
    refine ⟨hl, ?_⟩
    rcases ho with ho | ⟨g, o, cur, e1, e2, e3⟩
    · exact .inl ho
    · exact .inr ⟨g, o, cur, e1, (hb g (by simp [Res.blk, e1])).trans e2, e3⟩

section steps
variable {P : Program} {ops : Array Oper} {Q : Exit → Act → World → Prop} {rest : List Oper} {N : Nat} {L : Slots} {a : Act} {w w' : World} {fx : Fx} {S S' : Nat → Prop} {R : List Res} {E : List Asrt}
variable {ty : TypeId} {pos : String} {af : Array Edge} {g : Option (Nat × Bool)} {d : Nat}

theorem Sel.app {R : List Res} : ∀ {is js : List Nat} {A B : List Res}, Sel R is A → Sel R js B → Sel R (is ++ js) (A ++ B)
  | [], _, [], _, _, h => h
  | i :: is, _, r :: rs, _, h, h' => ⟨h.1, Sel.app h.2 h'⟩
  | [], _, _ :: _, _, h, _ => h.elim
  | _ :: _, _, [], _, h, _ => h.elim
/-- a call: it gets Rc, the rest Rk stays as it is, it hands back Ro -/
theorem Wd.callS (hw : Wd fx S R E w) {ic ik : List Nat} {Rc Rk Ro : List Res} (hn : (ic ++ ik).Nodup) (hc : Sel R ic Rc) (hk : Sel R ik Rk) (hp : PostW (blks Rc) w S w' S') (ho : Outs (blks Rc) w S' w' Ro) : Wd fx S' (Ro ++ Rk) E w' := by
  have hap := Sel.apart hw.apart hn (Sel.app hc hk)
  rw [List.pairwise_append] at hap
  obtain ⟨hap1, hap2, hap3⟩ := hap
  have hcm : ∀ r, r ∈ Rc → r ∈ R := fun r hr => by obtain ⟨i, _, h⟩ := hc.mem r hr; exact List.mem_of_getElem? h
  have hkm : ∀ r, r ∈ Rk → r ∈ R := fun r hr => by obtain ⟨i, _, h⟩ := hk.mem r hr; exact List.mem_of_getElem? h
  have hX : ∀ b, b ∈ blks Rc → ¬ S b ∧ b < w.heap.size ∧ (b ∈ fx.X ∨ fx.w0.heap.size ≤ b) := fun b hb => by
    obtain ⟨r, hr, hb⟩ := mem_blks.1 hb
    exact hw.at_ r (hcm r hr) b hb
  have hkX : ∀ r, r ∈ Rk → ∀ b, r.blk = some b → b ∉ blks Rc := fun r hr b hb hx => by
    obtain ⟨s, hs, hb'⟩ := mem_blks.1 hx
    exact hap3 s hs r hr b hb' hb
  have hkeep : Keep S S' w w' := fun b hb => ⟨hp.sub b hb, hp.keep b (hw.sin b hb).1 (fun hx => (hX b hx).1 hb)⟩
  refine ⟨hp.os.trans hw.os, hp.tape.trans hw.tape, hp.output.trans hw.output, Nat.le_trans hw.drawn hp.drawn, Nat.le_trans hw.size hp.size, fun b hb hx => ?_, fun r hr => ?_, fun r hr b hb => ?_, ?_, fun b hb => hp.sub b (hw.s0 b hb), fun b hb => ?_, fun e he => e.mono hkeep (hw.env e he)⟩
  · rw [hp.keep b (Nat.lt_of_lt_of_le hb hw.size) (fun h => by rcases (hX b h).2.2 with h1 | h1; exact hx h1; omega)]
    exact hw.keep b hb hx
  · rcases List.mem_append.1 hr with hr | hr
    · exact ho.own r hr
    · exact Res.own_keep (hw.own r (hkm r hr)) fun b hb => hp.keep b (hw.at_ r (hkm r hr) b hb).2.1 (hkX r hr b hb)
  · rcases List.mem_append.1 hr with hr | hr
    · obtain ⟨h1, h2, h3⟩ := ho.at_ r hr b hb
      refine ⟨h1, h2, ?_⟩
      rcases h3 with h3 | h3
      · exact (hX b h3).2.2
      · exact .inr (Nat.le_trans hw.size h3)
    · obtain ⟨h3, h4, h5⟩ := hw.at_ r (hkm r hr) b hb
      refine ⟨fun hs => ?_, Nat.lt_of_lt_of_le h4 hp.size, h5⟩
      rcases (hp.sin b hs).2 with h6 | h6 | h6
      · exact h3 h6
      · omega
      · exact hkX r hr b hb h6
  · rw [List.pairwise_append]
    refine ⟨ho.apart, hap2, fun r hr s hs b hb hb' => ?_⟩
    have h1 := (ho.at_ r hr b hb).2.2
    have h2 := (hw.at_ s (hkm s hs) b hb').2.1
    rcases h1 with h1 | h1
    · exact hkX s hs b hb' h1
    · omega
  · obtain ⟨h1, h2⟩ := hp.sin b hb
    refine ⟨h1, ?_⟩
    rcases h2 with h2 | h2 | h2
    · exact (hw.sin b h2).2
    · exact .inr (.inl (Nat.le_trans hw.size h2))
    · exact (hX b h2).2.2.elim (fun q => .inr (.inr q)) (fun q => .inr (.inl q))
def selR (R : List Res) : List Nat → List Res
  | [] => []
  | i :: is => (R[i]?).elim (selR R is) fun r => r :: selR R is
theorem Sel.sel {R : List Res} : ∀ {is : List Nat}, is.all (fun i => Nat.blt i R.length) = true → Sel R is (selR R is)
  | [], _ => trivial
  | i :: is, h => by
    simp only [List.all_cons, Bool.and_eq_true, Nat.blt_eq] at h
    have h1 : R[i]? = some R[i] := List.getElem?_eq_getElem h.1
    simp only [selR, h1, Option.elim]
    exact ⟨h1, Sel.sel h.2⟩
theorem Wd.callO (hw : Wd fx S R E w) (ic ik : List Nat) {Ro : List Res} (hn : (ic ++ ik).Nodup) (hv : (ic ++ ik).all (fun i => Nat.blt i R.length) = true) (hp : PostW (blks (selR R ic)) w S w' S') (ho : Outs (blks (selR R ic)) w S' w' Ro) : Wd fx S' (Ro ++ selR R ik) E w' := by
  rw [List.all_append, Bool.and_eq_true] at hv
  exact hw.callS hn (Sel.sel hv.1) (Sel.sel hv.2) hp ho

theorem Sel.all (R : List Res) : Sel R (List.range R.length) R := by
  refine Sel.of ?_
  apply List.ext_getElem?
  intro i
  simp only [List.getElem?_map]
  by_cases h : i < R.length
  · simp [h]
  · simp [List.getElem?_eq_none (Nat.le_of_not_lt h), h]
/-- a call that writes to nothing that was there -/
theorem Wd.call (hw : Wd fx S R E w) (hp : PostW [] w S w' S') : Wd fx S' R E w' :=
  hw.callS (ic := []) (ik := List.range R.length) (Rc := []) (Rk := R) (Ro := []) (by simpa using List.nodup_range) trivial (Sel.all R) hp ⟨fun r hr => (by cases hr), fun r hr => (by cases hr), List.Pairwise.nil⟩

/-- .. that hands back what is new -/
theorem Wd.callN (hw : Wd fx S R E w) {Ro : List Res} (hp : PostW [] w S w' S') (ho : Outs [] w S' w' Ro) : Wd fx S' (Ro ++ R) E w' :=
  hw.callS (ic := []) (ik := List.range R.length) (Rc := []) (Rk := R) (Ro := Ro) (by simpa using List.nodup_range) trivial (Sel.all R) hp ho
/-- what is handed over to a call -/
theorem Wd.ins (hw : Wd fx S R E w) (is : List Nat) {R' : List Res} (hn : is.Nodup) (e1 : is.map (R[·]?) = R'.map some) : Ins S w R' := by
  have hs := Sel.of e1
  have hm : ∀ r, r ∈ R' → r ∈ R := fun r hr => by obtain ⟨i, _, h⟩ := hs.mem r hr; exact List.mem_of_getElem? h
  exact ⟨fun r hr => hw.own r (hm r hr), fun r hr b hb => ⟨(hw.at_ r (hm r hr) b hb).1, (hw.at_ r (hm r hr) b hb).2.1⟩, Sel.apart hw.apart hn hs⟩
/-- what is handed back at the end -/
theorem Wd.outs (hw : Wd fx S R E w) (is : List Nat) {R' : List Res} (hn : is.Nodup) (e1 : is.map (R[·]?) = R'.map some) : Outs fx.X fx.w0 S w R' := by
  have hs := Sel.of e1
  have hm : ∀ r, r ∈ R' → r ∈ R := fun r hr => by obtain ⟨i, _, h⟩ := hs.mem r hr; exact List.mem_of_getElem? h
  exact ⟨fun r hr => hw.own r (hm r hr), fun r hr b hb => hw.at_ r (hm r hr) b hb, Sel.apart hw.apart hn hs⟩

theorem RdL.sl {α : Type} [Enc α] {p : Option Addr} {k : Nat} {cs : List Value} {T : TypeId} {xs : List α} (ho : (Res.row p xs.length k cs T (Enc.sz α)).own w) (hR : RdL S w cs xs) (hS : ∀ b, p.map (·.block) = some b → S b) : (SlA p xs.length k xs).p S w := by
  show RdSl S w p xs.length k xs
  rcases ho.2 with ⟨h1, h2⟩ | ⟨b, cap, cur, h1, h2, h3, h4, h5, h6, h7⟩
  · simp only [Value.slice.injEq] at h1
    obtain ⟨rfl, h1, rfl⟩ := h1
    exact ⟨rfl, by omega, fun _ => rfl, fun a ha => (by cases ha)⟩
  · simp only [Value.slice.injEq] at h1
    obtain ⟨rfl, _, rfl⟩ := h1
    refine ⟨rfl, h4, fun h => (by cases h), fun a ha => ?_⟩
    cases ha
    refine ⟨fun _ => rfl, fun _ => hS b rfl, fun q hq => ⟨_, ?_, hR.get q hq⟩⟩
    intro c v hv
    show w.cell? ⟨b, 0 + q * Enc.sz α + c, none⟩ = some v
    rw [Nat.zero_add]
    exact row_cell ho (getElem_elem rfl hv)

/-! ### lent for the time of a call -/
def lent (R : List Res) (S : Nat → Prop) : Nat → Prop := fun b => S b ∨ b ∈ blks R
theorem lent_keep : Keep S (lent R S) w w := fun b hb => ⟨.inl hb, rfl⟩
theorem Wd.bdom (hw : Wd fx S R E w) : ∀ b, lent R S b → b < w.heap.size := fun b hb => by
  rcases hb with hb | hb
  · exact (hw.sin b hb).1
  · obtain ⟨r, hr, hb⟩ := mem_blks.1 hb; exact (hw.at_ r hr b hb).2.1
theorem Wd.bE (hw : Wd fx S R E w) (i : Nat) {e : Asrt} (he : E[i]? = some e) : e.p (lent R S) w := e.mono lent_keep (hw.envAt i he)
theorem Wd.bRow {α : Type} [Enc α] {p : Option Addr} {k : Nat} {cs : List Value} {T : TypeId} {xs : List α} (hw : Wd fx S R E w) (i : Nat) (hr : R[i]? = some (.row p xs.length k cs T (Enc.sz α))) (j : Nat) (hj : E[j]? = some (RowA cs xs)) : (SlA p xs.length k xs).p (lent R S) w :=
  RdL.sl (hw.ownAt i hr) (hw.bE j hj) fun b hb => .inr (mem_blks.2 ⟨_, List.mem_of_getElem? hr, hb⟩)
theorem Wd.bBox (hw : Wd fx S R E w) (i : Nat) {b : Nat} {cs : List Value} {T : TypeId} (hr : R[i]? = some (.box b cs T)) : (CeA b 0 cs).p (lent R S) w :=
  ⟨.inr (mem_blks.2 ⟨_, List.mem_of_getElem? hr, rfl⟩), fun j v hv => by rw [Nat.zero_add]; exact cell_of_list (hw.ownAt i hr) hv⟩
theorem Wd.callB (hw : Wd fx S R E w) (hp : PostW [] w (lent R S) w' S') : Wd fx S R E w' :=
  hw.call ⟨hp.os, hp.tape, hp.output, hp.drawn, hp.size, hp.keep, fun _ h => h, fun b hb => ⟨Nat.lt_of_lt_of_le (hw.sin b hb).1 hp.size, .inl hb⟩⟩

/-- a call of a Go function by its contract -/
theorem st_callR {o : Oper} {f : FuncId} {args : Array Value} {X : List Nat} {rd : (Nat → Prop) → World → Value → Prop} (hs : Sl N L a) (hc : Calls P f args w (Ret X w S rd)) (hy : Do P o L w (.enter f args) w) (hw : Wanted ops L o.guard) (hd : o.dst = some d) (hN : Nat.ble (d + 1) N = true)
    (k : ∀ v S' w' a, PostW X w S w' S' → rd S' w' v → Sl N ((d, v) :: L) a → wpList P ops Q rest a w') : wpList P ops Q (o :: rest) a w :=
  st_call hs hy hw hd hN hc fun e w' ⟨v, S', he, hp, hr⟩ => ⟨v, he, fun a hs => k v S' w' a hp hr hs⟩

/-- the entry of a function -/
theorem Wd.enter (hS : ∀ b, S b → b < w.heap.size) (hE : ∀ e, e ∈ E → e.p S w) : Wd ⟨w, S, []⟩ S [] E w :=
  ⟨rfl, rfl, rfl, Nat.le_refl _, Nat.le_refl _, fun _ _ _ => rfl, fun r hr => (by cases hr), fun r hr => (by cases hr), List.Pairwise.nil, fun _ h => h, fun b hb => ⟨hS b hb, .inl hb⟩, hE⟩
/-- .. that is handed something to write -/
theorem Wd.enterI {Ri : List Res} (hS : ∀ b, S b → b < w.heap.size) (hi : Ins S w Ri) : Wd ⟨w, S, blks Ri⟩ S Ri [] w :=
  ⟨rfl, rfl, rfl, Nat.le_refl _, Nat.le_refl _, fun _ _ _ => rfl, hi.own, fun r hr b hb => ⟨(hi.at_ r hr b hb).1, (hi.at_ r hr b hb).2, .inl (mem_blks.2 ⟨r, hr, hb⟩)⟩, hi.apart, fun _ h => h, fun b hb => ⟨hS b hb, .inl hb⟩, fun _ h => (by cases h)⟩

theorem Wd.dom (hw : Wd fx S R E w) : ∀ b, S b → b < w.heap.size := fun b hb => (hw.sin b hb).1
theorem Wd.boxS (hw : Wd fx S R E w) (i : Nat) {b : Nat} {cs : List Value} {T : TypeId} (hr : R[i]? = some (.box b cs T)) : ¬ S b := (hw.at_ _ (List.mem_of_getElem? hr) b rfl).1

/-- its end -/
theorem Wd.ret (hw : Wd fx S R E w) {rd : (Nat → Prop) → World → Value → Prop} {v : Value} (hr : rd S w v) : Ret fx.X fx.w0 fx.S0 rd (.returned v) w :=
  ⟨v, S, rfl, ⟨hw.os, hw.tape, hw.output, hw.drawn, hw.size, hw.keep, hw.s0, hw.sin⟩, hr⟩

/-- a row becomes shared -/
theorem w_share {α : Type} [Enc α] {p : Option Addr} {k : Nat} {cs : List Value} {T : TypeId} {xs : List α} (hw : Wd fx S R E w) (i : Nat) (hr : R[i]? = some (.row p xs.length k cs T (Enc.sz α))) (j : Nat) (hj : E[j]? = some (RowA cs xs)) :
    ∃ S', Wd fx S' (R.eraseIdx i) (SlA p xs.length k xs :: E) w := by
  refine ⟨fun b => S b ∨ (Res.row p xs.length k cs T (Enc.sz α)).blk = some b, ?_⟩
  have hw2 := hw.share i hr (fun b => S b ∨ (Res.row p xs.length k cs T (Enc.sz α)).blk = some b) (fun b => Iff.rfl)
  exact hw2.addE (RdL.sl (hw.ownAt i hr) (hw2.envAt j hj) fun b hb => .inr hb)

/-- nil reads as the empty list -/
theorem nil_sl {α : Type} [Enc α] : (SlA (α := α) none 0 0 []).p S w := ⟨rfl, Nat.le_refl _, fun _ => rfl, fun a ha => (by cases ha)⟩
/-- .. and is a row of the call's own -/
theorem Wd.nilRow (α : Type) [Enc α] (T : TypeId) (hw : Wd fx S R E w) : Wd fx S (.row none ([] : List α).length 0 [] T (Enc.sz α) :: R) (RowA (α := α) [] [] :: E) w := by
  have h1 := hw.addE (e := RowA (α := α) [] []) rfl
  exact { h1 with
    own := fun x hx => by
      rcases List.mem_cons.1 hx with rfl | hx
      · exact ⟨by simp, .inl ⟨rfl, rfl⟩⟩
      · exact h1.own x hx
    at_ := fun x hx b hb => by
      rcases List.mem_cons.1 hx with rfl | hx
      · cases hb
      · exact h1.at_ x hx b hb
    apart := List.pairwise_cons.2 ⟨fun x hx b hb => (by cases hb), h1.apart⟩ }

/-! ### loops -/

theorem wp_while {σ β : Type} {body : σ → Option (σ ⊕ β)} {c : Code} {r : β} (J : σ → Act → World → Prop) (s : σ) (hr : whileM body s = some r) (hJ : J s a w)
    (hb : ∀ s a w t, J s a w → body s = some t → (∀ b, t = .inr b → b = r) → c.wp P (Exit.then (fun a w => ∃ s', t = .inl s' ∧ J s' a w) Q) a w) : (Code.loop c).wp P Q a w := by
  obtain ⟨n, hn⟩ := whileM_some.1 hr
  refine wp_loop_ghost (fun n a w => ∃ s, iterN body n s = some r ∧ J s a w) n ⟨s, hn, hJ⟩ ?_
  rintro n a w ⟨s, hs, hJ⟩
  cases n with
  | zero => simp [iterN] at hs
  | succ n =>
    simp only [iterN] at hs
    cases ht : body s with
    | none => rw [ht] at hs; cases hs
    | some t =>
      rw [ht] at hs
      refine wp_mono (hb s a w t hJ ht (fun b hb => ?_)) fun e a' w' hq => ?_
      · subst hb; exact Option.some.inj hs
      · cases e with
        | normal =>
          obtain ⟨s', rfl, hJ'⟩ := hq
          exact ⟨n, Nat.lt_succ_self n, s', hs, hJ'⟩
        | exit id => exact hq
        | goto l => exact hq
        | ret => exact hq
        | panic ch => exact hq
        | outgrown => exact hq

/-! ### ways that meet again, and statements whose order is open -/

theorem wp_join {c : Code} (J : Act → World → Prop) (h1 : c.wp P (Exit.then J Q) a w) (h2 : ∀ a w, J a w → Q .normal a w) : c.wp P Q a w :=
  wp_mono h1 fun e a w h => by cases e <;> first | exact h2 _ _ h | exact h
theorem wpl_join (n : Nat) {l : List Oper} (J : Act → World → Prop) (h1 : wpList P ops (Exit.then J Q) (l.take n) a w) (h2 : ∀ a w, J a w → wpList P ops Q (l.drop n) a w) : wpList P ops Q l a w := by
  have key : ∀ (n : Nat) (l : List Oper) (a : Act) (w : World), wpList P ops (Exit.then J Q) (l.take n) a w → (∀ a w, J a w → wpList P ops Q (l.drop n) a w) → wpList P ops Q l a w := by
    intro n
    induction n with
    | zero => intro l a w h1 h2; simpa using h2 a w (by simpa [wpList, Exit.then] using h1)
    | succ n ih =>
      intro l a w h1 h2
      cases l with
      | nil => exact h2 a w (by simpa [wpList, Exit.then] using h1)
      | cons o l =>
        simp only [List.take_succ_cons, wpList] at h1 ⊢
        have hK : ∀ a w, wpList P ops (Exit.then J Q) (l.take n) a w → wpList P ops Q l a w := fun a w h => ih l a w h (by simpa using h2)
        split
        · rename_i hw
          rw [if_pos hw] at h1
          rcases h1 with h1 | ⟨h1, a0, w0, h3⟩
          · refine .inl ?_
            unfold Oper.wp at *
            generalize (execOp a.eval o).run P w = r at *
            cases r with
            | ok nx w' =>
              cases nx <;> simp only [Oper.upon] at h1 ⊢ <;>
                first
                  | exact hK _ _ h1
                  | exact Calls.mono h1 (fun e w'' he => by cases e <;> first | exact hK _ _ he | exact he)
                  | exact Rows.mono h1 (fun _ _ he => hK _ _ he)
            | halt x w' => cases x <;> simp only [Oper.upon] at h1 ⊢ <;> exact h1
          · exact .inr ⟨h1, a0, w0, h3⟩
        · rename_i hw
          rw [if_neg hw] at h1
          exact hK _ _ h1
  exact key n l a w h1 h2

theorem Sl.fix (hs : Sl N L a) (t : Nat) {u : Value} (v : Value) (h : lk t L = some u) (e : u = v) : Sl N ((t, v) :: L) a := by
  refine ⟨hs.size, hs.defers, fun t' x hx => ?_⟩
  simp only [lk] at hx
  cases hb : Nat.beq t t' with
  | true =>
    rw [hb] at hx
    have := Nat.eq_of_beq_eq_true hb
    subst this
    simp only [cond_true, Option.some.injEq] at hx
    subst hx; subst e
    exact hs.slot _ _ h
  | false => rw [hb] at hx; exact hs.slot _ _ (by simpa using hx)
theorem and_t {b e : Bool} (h : b = true) : Value.bool e = Value.bool (b && e) := by rw [h]; rfl
theorem and_f {b e : Bool} (h : b = false) : Value.bool false = Value.bool (b && e) := by rw [h]; rfl
theorem or_t {b e : Bool} (h : b = true) : Value.bool true = Value.bool (b || e) := by rw [h]; rfl
theorem or_f {b e : Bool} (h : b = false) : Value.bool e = Value.bool (b || e) := by rw [h]; rfl
theorem vb {b c : Bool} (h : b = c) : Value.bool b = Value.bool c := by rw [h]
theorem vi {k : IntKind} {m n : Int} (h : some m = some n) : Value.int k m = Value.int k n := by rw [Option.some.inj h]
theorem vbs {m n : Bool} (h : some m = some n) : Value.bool m = Value.bool n := by rw [Option.some.inj h]

/-- nothing but a normal end -/
def OnlyN (J : Act → World → Prop) : Exit → Act → World → Prop
  | .normal, a, w => J a w
  | _, _, _ => False
theorem wp_only {c : Code} (J : Act → World → Prop) (h1 : c.wp P (OnlyN J) a w) (h2 : ∀ a w, J a w → Q .normal a w) : c.wp P Q a w :=
  wp_mono h1 fun e a w h => by cases e <;> first | exact h2 _ _ h | exact h.elim

/-- worlds in which resources and shared memory are as they are told -/
structure Cls (R : List Res) (E : List Asrt) (w : World) : Prop where
  own : ∀ r, r ∈ R → r.own w
  env : ∀ e, e ∈ E → ∃ S, e.p S w
theorem Cls.ownAt {R : List Res} {E : List Asrt} (h : Cls R E w) (i : Nat) {r : Res} (he : R[i]? = some r) : r.own w := h.own r (List.mem_of_getElem? he)
theorem Cls.ceAt {R : List Res} {E : List Asrt} (h : Cls R E w) (i : Nat) {e : Asrt} (he : E[i]? = some e) : ∃ S, e.p S w := h.env e (List.mem_of_getElem? he)
theorem Wd.cls (hw : Wd fx S R E w) {R' : List Res} {E' : List Asrt} (is : List Nat) (hs : Sel R is R') (he : AllIn E E') : Cls R' E' w :=
  ⟨fun r hr => by obtain ⟨i, _, h⟩ := hs.mem r hr; exact hw.own r (List.mem_of_getElem? h), fun e h => ⟨S, hw.env e (he.mem e h)⟩⟩

section held
variable {J : Act → World → Prop} {C : World → Prop} {fuel : Nat} {listed : Array Bool}
theorem h_begin {id n : Nat} (hm : P.follows .mixedOrders = true) (hn : ops.size = n) (h : wpAnyH P .any ops (OnlyN J) C n (Array.replicate n false) a { w with drawn := w.drawn + 1 }) : (Code.region id ops true).wp P (OnlyN J) a w := by
  subst hn; exact wp_region_held hm h
theorem h_take {i : Nat} {o : Oper} {v : Value} (hs : Sl N L a) (hi : ops[i]? = some o) (hsel : Region.noSelect ops = true) (hf : Region.free .any ops listed i = true) (hr : (Region.ready .any ops listed).contains i = true)
    (hw : Wanted ops L o.guard) (hd : o.dst = some d) (hN : Nat.ble (d + 1) N = true) (hC : C w) (hy : ∀ w, C w → Yd P o L w v)
    (k : ∀ a, Sl N ((d, v) :: L) a → wpAnyH P .any ops (OnlyN J) C fuel (listed.setIfInBounds i true) a w) : wpAnyH P .any ops (OnlyN J) C (fuel + 1) listed a w := by
  refine wpAnyH_take hi hsel hf hr (fun _ _ _ h => h.elim) (.inl ⟨hw.out hs, fun w hCw => hy w hCw a (fun x u => hs.ev)⟩) hC ?_
  rw [hd]
  exact k _ (hs.put d v hN)
theorem h_skip {i t j : Nat} {b : Bool} {o : Oper} {u : Value} (hs : Sl N L a) (hi : ops[i]? = some o) (hsel : Region.noSelect ops = true) (hf : Region.free .any ops listed i = true) (hr : (Region.ready .any ops listed).contains i = true)
    (hg : o.guard = some (j, b)) (ht : (ops[j]?).bind (·.dst) = some t) (hb : lk t L = some u) (hu : u = .bool (!b) ∨ u = undef) (hd : o.dst = some d) (hN : Nat.ble (d + 1) N = true) (hC : C w)
    (k : ∀ a, Sl N ((d, undef) :: L) a → wpAnyH P .any ops (OnlyN J) C fuel (listed.setIfInBounds i true) a w) : wpAnyH P .any ops (OnlyN J) C (fuel + 1) listed a w := by
  have hw : Region.wanted o (yielded ops a.tmps) = false := by
    simp only [Region.wanted, hg, yielded, ht, Option.bind_some, hs.slot t _ hb]
    rcases hu with rfl | rfl
    · cases b <;> rfl
    · cases b <;> rfl
  refine wpAnyH_take hi hsel hf hr (fun _ _ _ h => h.elim) (.inr ⟨hw, rfl⟩) hC ?_
  rw [hd]
  exact k _ (hs.put d undef hN)
/-- each of these comes up next -/
def AllH (P : Program) (ops : Array Oper) (J : Act → World → Prop) (C : World → Prop) (fuel : Nat) (listed : Array Bool) (a : Act) (w : World) (rs : List Nat) : Prop :=
  ∀ i, i ∈ rs → wpOp P ops (OnlyN J) i (fun a' w' => C w' ∧ wpAnyH P .any ops (OnlyN J) C fuel (listed.setIfInBounds i true) a' w') a w
theorem h_all {rs : List Nat} (hr : Region.ready .any ops listed = rs) (hne : rs.isEmpty = false) (h : AllH P ops J C fuel listed a w rs) : wpAnyH P .any ops (OnlyN J) C (fuel + 1) listed a w :=
  wpAnyH_all hr (by cases rs <;> simp_all) h
theorem AllH.nil : AllH P ops J C fuel listed a w [] := fun _ h => by cases h
theorem AllH.cons {i : Nat} {o : Oper} {rs : List Nat} (ho : ops[i]? = some o) (h : wpList P ops (Exit.then (fun a' w' => C w' ∧ wpAnyH P .any ops (OnlyN J) C fuel (listed.setIfInBounds i true) a' w') (OnlyN J)) [o] a w) (hs : AllH P ops J C fuel listed a w rs) : AllH P ops J C fuel listed a w (i :: rs) := by
  intro j hj
  rcases List.mem_cons.1 hj with rfl | hj
  · unfold wpOp
    simp only [ho]
    unfold wpList at h
    split
    · rename_i hw
      rw [if_pos hw] at h
      rcases h with h | ⟨h1, a0, w0, h3⟩
      · refine .inl ?_
        unfold Oper.wp at *
        generalize (execOp a.eval o).run P w = r at *
        cases r with
        | ok nx w' =>
          cases nx <;> simp only [Oper.upon] at h ⊢ <;>
            first
              | exact h
              | exact Calls.mono h (fun e w'' he => by cases e <;> exact he)
              | exact Rows.mono h (fun _ _ he => he)
        | halt x w' => cases x <;> simp only [Oper.upon] at h ⊢ <;> exact h
      · exact .inr ⟨h1, a0, w0, h3⟩
    · rename_i hw
      rw [if_neg hw] at h
      exact h
  · exact hs j hj
theorem h_done (hr : Region.ready .any ops listed = []) (h : J a w) : wpAnyH P .any ops (OnlyN J) C fuel listed a w := wpAnyH_done hr h _
end held

/-! ### results -/

def rvS (tmps : Array Value) : ResultVar → Sem Value
  | .tmp t => pure (tmps.getD t undef)
  | .cell a t => do loadVar t (← asAddr (tmps.getD a undef))
theorem results_eq (fn : Func) (tmps : Array Value) : results fn tmps = (do
    let vs ← fn.results.mapM (rvS tmps)
    pure (if h : vs.size = 1 then vs[0] else .tuple vs)) := rfl
def ResV (P : Program) (L : Slots) (w : World) (rv : ResultVar) (v : Value) : Prop :=
  ∀ tmps : Array Value, (∀ t u, lk t L = some u → tmps[t]? = some u) → (rvS tmps rv).run P w = .ok v w
theorem rv_tmp {t : Tmp} {v : Value} (h : lk t L = some v) : ResV P L w (.tmp t) v := fun tmps ht => by
  have := ht t v h
  simp [rvS, this]
theorem rv_cell {t : Tmp} {T T' : TypeId} {b m : Nat} {cs : List Value} (hw : Wd fx S R E w) (i : Nat) (hr : R[i]? = some (.box b cs T')) (h : lk t L = some (.pointer (some ⟨b, 0, none⟩))) (ha : AggT P T true) (hsz : SzT P T m) (hm : Nat.beq cs.length m = true) : ResV P L w (.cell t T) (.agg cs.toArray) := fun tmps ht => by
  have h1 := ht t _ h
  have h2 : tmps.getD t undef = .pointer (some ⟨b, 0, none⟩) := by simp [h1]
  simp only [rvS, h2, asAddr, Sem.run_bind, Sem.run_pure, Result.andThen_ok]
  exact run_loadVarA ha hsz (Nat.eq_of_beq_eq_true hm) (fun j v hv => by rw [Nat.zero_add]; exact cell_of_list (hw.ownAt i hr) hv)
theorem rv_cell1 {t : Tmp} {T T' : TypeId} {b : Nat} {cs : List Value} {v : Value} (hw : Wd fx S R E w) (i : Nat) (hr : R[i]? = some (.box b cs T')) (h : lk t L = some (.pointer (some ⟨b, 0, none⟩))) (ha : AggT P T false) (hv : cs[0]? = some v) : ResV P L w (.cell t T) v := fun tmps ht => by
  have h1 := ht t _ h
  have h2 : tmps.getD t undef = .pointer (some ⟨b, 0, none⟩) := by simp [h1]
  simp only [rvS, h2, asAddr, Sem.run_bind, Sem.run_pure, Result.andThen_ok]
  exact run_loadVar1 ha (cell_of_list (hw.ownAt i hr) hv)

theorem ret1 {fn : Func} {Rl : Ending → World → Prop} {r1 : ResultVar} {v1 : Value} (hs : Sl N L a) (hf : fn.results = #[r1]) (h1 : ResV P L w r1 v1) (hR : Rl (.returned v1) w) : bodyPost P fn Rl .ret a w := by
  refine ⟨hs.defers, v1, ?_, hR⟩
  have e1 := h1 a.tmps hs.slot
  rw [results_eq, hf]
  simp [e1]
theorem ret0 {fn : Func} {Rl : Ending → World → Prop} (hs : Sl N L a) (hf : fn.results = #[]) (hR : Rl (.returned (.tuple #[])) w) : bodyPost P fn Rl .ret a w :=
  ⟨hs.defers, .tuple #[], results_none hf _ _ _, hR⟩
theorem ret2 {fn : Func} {Rl : Ending → World → Prop} {r1 r2 : ResultVar} {v1 v2 : Value} (hs : Sl N L a) (hf : fn.results = #[r1, r2]) (h1 : ResV P L w r1 v1) (h2 : ResV P L w r2 v2) (hR : Rl (.returned (.tuple #[v1, v2])) w) : bodyPost P fn Rl .ret a w := by
  refine ⟨hs.defers, .tuple #[v1, v2], ?_, hR⟩
  have e1 := h1 a.tmps hs.slot
  have e2 := h2 a.tmps hs.slot
  rw [results_eq, hf]
  simp [e1, e2]
theorem ret3 {fn : Func} {Rl : Ending → World → Prop} {r1 r2 r3 : ResultVar} {v1 v2 v3 : Value} (hs : Sl N L a) (hf : fn.results = #[r1, r2, r3]) (h1 : ResV P L w r1 v1) (h2 : ResV P L w r2 v2) (h3 : ResV P L w r3 v3) (hR : Rl (.returned (.tuple #[v1, v2, v3])) w) : bodyPost P fn Rl .ret a w := by
  refine ⟨hs.defers, .tuple #[v1, v2, v3], ?_, hR⟩
  have e1 := h1 a.tmps hs.slot
  have e2 := h2 a.tmps hs.slot
  have e3 := h3 a.tmps hs.slot
  rw [results_eq, hf]
  simp [e1, e2, e3]
end steps
end Go.Proofs.YthdimlepjpnncaaGreat.Wk

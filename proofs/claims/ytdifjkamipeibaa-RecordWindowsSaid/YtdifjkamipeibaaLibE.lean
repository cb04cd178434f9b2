/- A library for walks over any program: sharing, calls by contract, loops, the end of a function. No statement of the seat is used here. -/
import Derived.Test.YtdifjkamipeibaaLibD
import Derived.OrdersHeld
import Derived.Still
namespace Go.Proofs.Ytdifjkamipeibaa.Wk
open Go Go.RowKit Go.Proofs.Ytdifjkamipeibaa.Sh
set_option linter.unusedSimpArgs false
set_option linter.unusedVariables false

/-- what a call does to the world, but for its result: nothing that was there has turned, but the blocks X; what is shared behind it was shared before, or is new -/
structure PostW (X : List Nat) (w : World) (S : Nat → Prop) (w' : World) (S' : Nat → Prop) : Prop where
  os : w'.os = w.os
  tape : w'.tape = w.tape
  output : w'.output = w.output
  size : w.heap.size ≤ w'.heap.size
  keep : ∀ b, b < w.heap.size → b ∉ X → w'.heap[b]? = w.heap[b]?
  sub : ∀ b, S b → S' b
  sin : ∀ b, S' b → b < w'.heap.size ∧ (S b ∨ w.heap.size ≤ b)

/-- a contract's end -/
def Ret (X : List Nat) (w : World) (S : Nat → Prop) (rd : (Nat → Prop) → World → Value → Prop) : Ending → World → Prop :=
  fun e w' => ∃ v S', e = .returned v ∧ PostW X w S w' S' ∧ rd S' w' v

/-- a row that a call hands over to its caller -/
def Fresh (w : World) (S' : Nat → Prop) (w' : World) (r : Res) : Prop := r.own w' ∧ ∀ b, r.blk = some b → w.heap.size ≤ b ∧ b < w'.heap.size ∧ ¬ S' b

section steps
variable {P : Program} {ops : Array Oper} {Q : Exit → Act → World → Prop} {rest : List Oper} {N : Nat} {L : Slots} {a : Act} {w w' : World} {fx : Fx} {S S' : Nat → Prop} {R : List Res} {E : List Asrt}
variable {ty : TypeId} {pos : String} {af : Array Edge} {g : Option (Nat × Bool)} {d : Nat}

theorem Wd.callX (hw : Wd fx S R E w) {X : List Nat} (hp : PostW X w S w' S') {R' : List Res} (hX : ∀ b, b ∈ X → ¬ S b ∧ (b ∈ fx.X ∨ fx.w0.heap.size ≤ b)) (hown : ∀ r, r ∈ R' → r.own w' ∧ ∃ r0, r0 ∈ R ∧ r.blk = r0.blk)
    (hap : R'.Pairwise (fun r s => ∀ b, r.blk = some b → s.blk ≠ some b)) : Wd fx S' R' E w' := by
  have hk : Keep S S' w w' := fun b hb => ⟨hp.sub b hb, hp.keep b (hw.sin b hb).1 (fun hx => (hX b hx).1 hb)⟩
  refine ⟨hp.os.trans hw.os, hp.tape.trans hw.tape, hp.output.trans hw.output, Nat.le_trans hw.size hp.size, fun b hb hx => ?_, fun r hr => (hown r hr).1, fun r hr b hb => ?_, hap, fun b hb => hp.sub b (hw.s0 b hb), fun b hb => ?_, fun e he => e.mono hk (hw.env e he)⟩
  · rw [hp.keep b (Nat.lt_of_lt_of_le hb hw.size) (fun h => by rcases (hX b h).2 with h1 | h1; exact hx h1; omega)]
    exact hw.keep b hb hx
  · obtain ⟨_, r0, h1, h2⟩ := hown r hr
    rw [h2] at hb
    obtain ⟨h3, h4, h5⟩ := hw.at_ r0 h1 b hb
    refine ⟨fun hs => ?_, Nat.lt_of_lt_of_le h4 hp.size, h5⟩
    rcases (hp.sin b hs).2 with h6 | h6
    · exact h3 h6
    · omega
  · obtain ⟨h1, h2⟩ := hp.sin b hb
    refine ⟨h1, ?_⟩
    rcases h2 with h2 | h2
    · exact (hw.sin b h2).2
    · exact .inr (Nat.le_trans hw.size h2)

/-- a call that writes to nothing that was there -/
theorem Wd.call (hw : Wd fx S R E w) (hp : PostW [] w S w' S') : Wd fx S' R E w' := by
  refine hw.callX hp (fun b hb => by cases hb) (fun r hr => ⟨?_, r, hr, rfl⟩) hw.apart
  have ho := hw.own r hr
  have hb : ∀ b, r.blk = some b → w'.heap[b]? = w.heap[b]? := fun b hb => hp.keep b (hw.at_ r hr b hb).2.1 (by simp)
  cases r with
  | box b cs T => show w'.heap[b]? = _; rw [hb b rfl]; exact ho
  | row p n k cs T sz =>
    obtain ⟨hl, ho⟩ := ho
    refine ⟨hl, ?_⟩
    rcases ho with ho | ⟨g, cap, cur, e1, e2, e3, e4⟩
    · exact .inl ho
    · refine .inr ⟨g, cap, cur, e1, e2, ?_, e4⟩
      rw [hb g (by simp only [Value.slice.injEq] at e1; simp [Res.blk, e1.1])]
      exact e3

theorem set_split {α : Type} : ∀ {l : List α} {i : Nat} {x y z : α}, z ∈ l.set i y → l[i]? = some x → z = y ∨ ∃ j, j ≠ i ∧ l[j]? = some z
  | [], i, x, y, z, h, hx => by simp at hx
  | a :: l, 0, x, y, z, h, hx => by
    simp only [List.set_cons_zero, List.mem_cons] at h
    rcases h with h | h
    · exact .inl h
    · obtain ⟨j, hj⟩ := List.getElem?_of_mem h; exact .inr ⟨j + 1, by omega, by simpa using hj⟩
  | a :: l, i + 1, x, y, z, h, hx => by
    simp only [List.set_cons_succ, List.mem_cons] at h
    rcases h with h | h
    · exact .inr ⟨0, by omega, by simp [h]⟩
    · rcases set_split h (by simpa using hx) with h1 | ⟨j, h1, h2⟩
      · exact .inl h1
      · exact .inr ⟨j + 1, by omega, by simpa using h2⟩

/-- a call that writes to one variable of the caller's -/
theorem Wd.call1 (hw : Wd fx S R E w) (i : Nat) {b : Nat} {cs cs' : List Value} {T : TypeId} (hr : R[i]? = some (.box b cs T)) (hp : PostW [b] w S w' S') (hb : w'.heap[b]? = some (.cells cs'.toArray T (0, 0))) : Wd fx S' (R.set i (.box b cs' T)) E w' := by
  have hm := List.mem_of_getElem? hr
  refine hw.callX hp (fun c hc => ?_) (fun r hr' => ?_) (pw_set hr hw.apart fun s hs c hc => .inl hc)
  · simp only [List.mem_singleton] at hc
    subst hc
    exact ⟨(hw.at_ _ hm c rfl).1, (hw.at_ _ hm c rfl).2.2⟩
  · rcases set_split hr' hr with rfl | ⟨j, hj, hrj⟩
    · exact ⟨hb, _, hm, rfl⟩
    · have hmj := List.mem_of_getElem? hrj
      refine ⟨?_, r, hmj, rfl⟩
      have hne : ∀ c, r.blk = some c → c ∉ [b] := fun c hc hx => by
        simp only [List.mem_singleton] at hx
        subst hx
        obtain ⟨hi, he⟩ := List.getElem?_eq_some_iff.1 hr
        obtain ⟨hj', he'⟩ := List.getElem?_eq_some_iff.1 hrj
        have hpw := List.pairwise_iff_getElem.1 hw.apart
        rcases Nat.lt_or_gt_of_ne hj with hlt | hlt
        · exact hpw j i hj' hi hlt c (by rw [he']; exact hc) (by rw [he]; rfl)
        · exact hpw i j hi hj' hlt c (by rw [he]; rfl) (by rw [he']; exact hc)
      have ho := hw.own r hmj
      have hb2 : ∀ c, r.blk = some c → w'.heap[c]? = w.heap[c]? := fun c hc => hp.keep c (hw.at_ r hmj c hc).2.1 (hne c hc)
      cases r with
      | box c cs T => show w'.heap[c]? = _; rw [hb2 c rfl]; exact ho
      | row p n k cs T sz =>
        obtain ⟨hl, ho⟩ := ho
        refine ⟨hl, ?_⟩
        rcases ho with ho | ⟨g, cap, cur, e1, e2, e3, e4⟩
        · exact .inl ho
        · refine .inr ⟨g, cap, cur, e1, e2, ?_, e4⟩
          rw [hb2 g (by simp only [Value.slice.injEq] at e1; simp [Res.blk, e1.1])]
          exact e3

/-- a row that came out of a call -/
theorem Wd.fresh (hw' : Wd fx S' R E w') (hs : w.heap.size ≤ w'.heap.size) (h0 : fx.w0.heap.size ≤ w.heap.size) (hR : ∀ r, r ∈ R → ∀ b, r.blk = some b → b < w.heap.size) {r : Res} (hf : Fresh w S' w' r) : Wd fx S' (r :: R) E w' :=
  { hw' with
    own := fun x hx => by rcases List.mem_cons.1 hx with rfl | hx; exact hf.1; exact hw'.own x hx
    at_ := fun x hx b hb => by
      rcases List.mem_cons.1 hx with rfl | hx
      · exact ⟨(hf.2 b hb).2.2, (hf.2 b hb).2.1, .inr (Nat.le_trans h0 (hf.2 b hb).1)⟩
      · exact hw'.at_ x hx b hb
    apart := List.pairwise_cons.2 ⟨fun x hx b hb e => by have h1 := (hf.2 b hb).1; have h2 := hR x hx b e; omega, hw'.apart⟩ }

theorem Wd.callF (hw : Wd fx S R E w) (hp : PostW [] w S w' S') {r : Res} (hf : Fresh w S' w' r) : Wd fx S' (r :: R) E w' :=
  (hw.call hp).fresh hp.size hw.size (fun r hr b hb => (hw.at_ r hr b hb).2.1) hf

theorem Wd.call1F (hw : Wd fx S R E w) (i : Nat) {b : Nat} {cs cs' : List Value} {T : TypeId} (hr : R[i]? = some (.box b cs T)) (hp : PostW [b] w S w' S') (hb : w'.heap[b]? = some (.cells cs'.toArray T (0, 0))) {r : Res} (hf : Fresh w S' w' r) : Wd fx S' (r :: R.set i (.box b cs' T)) E w' :=
  (hw.call1 i hr hp hb).fresh hp.size hw.size (fun x hx c hc => by
    rcases set_split hx hr with rfl | ⟨j, _, hj⟩
    · exact (hw.at_ _ (List.mem_of_getElem? hr) c hc).2.1
    · exact (hw.at_ _ (List.mem_of_getElem? hj) c hc).2.1) hf

/-- a call of a Go function by its contract -/
theorem st_callR {o : Oper} {f : FuncId} {args : Array Value} {X : List Nat} {rd : (Nat → Prop) → World → Value → Prop} (hs : Sl N L a) (hc : Calls P f args w (Ret X w S rd)) (hy : Do P o L w (.enter f args) w) (hw : Wanted ops L o.guard) (hd : o.dst = some d) (hN : Nat.ble (d + 1) N = true)
    (k : ∀ v S' w' a, PostW X w S w' S' → rd S' w' v → Sl N ((d, v) :: L) a → wpList P ops Q rest a w') : wpList P ops Q (o :: rest) a w :=
  st_call hs hy hw hd hN hc fun e w' ⟨v, S', he, hp, hr⟩ => ⟨v, he, fun a hs => k v S' w' a hp hr hs⟩

/-- the entry of a function -/
theorem Wd.enter (hS : ∀ b, S b → b < w.heap.size) (hE : ∀ e, e ∈ E → e.p S w) : Wd ⟨w, S, []⟩ S [] E w :=
  ⟨rfl, rfl, rfl, Nat.le_refl _, fun _ _ _ => rfl, fun r hr => (by cases hr), fun r hr => (by cases hr), List.Pairwise.nil, fun _ h => h, fun b hb => ⟨hS b hb, .inl hb⟩, hE⟩
/-- .. that gets a pointer to a variable of its caller's -/
theorem Wd.enter1 {b : Nat} {cs : List Value} {T : TypeId} (hS : ∀ b, S b → b < w.heap.size) (hb : w.heap[b]? = some (.cells cs.toArray T (0, 0))) (hbS : ¬ S b) (hE : ∀ e, e ∈ E → e.p S w) : Wd ⟨w, S, [b]⟩ S [.box b cs T] E w :=
  ⟨rfl, rfl, rfl, Nat.le_refl _, fun _ _ _ => rfl, fun r hr => (by simp only [List.mem_singleton] at hr; subst hr; exact hb),
    fun r hr c hc => (by simp only [List.mem_singleton] at hr; subst hr; simp only [Res.blk, Option.some.injEq] at hc; subst hc; exact ⟨hbS, (Array.getElem?_eq_some_iff.1 hb).1, .inl (by simp)⟩),
    List.pairwise_singleton _ _, fun _ h => h, fun b hb => ⟨hS b hb, .inl hb⟩, hE⟩

theorem Wd.dom (hw : Wd fx S R E w) : ∀ b, S b → b < w.heap.size := fun b hb => (hw.sin b hb).1
theorem Wd.boxS (hw : Wd fx S R E w) (i : Nat) {b : Nat} {cs : List Value} {T : TypeId} (hr : R[i]? = some (.box b cs T)) : ¬ S b := (hw.at_ _ (List.mem_of_getElem? hr) b rfl).1

/-- its end -/
theorem Wd.ret (hw : Wd fx S R E w) {rd : (Nat → Prop) → World → Value → Prop} {v : Value} (hr : rd S w v) : Ret fx.X fx.w0 fx.S0 rd (.returned v) w :=
  ⟨v, S, rfl, ⟨hw.os, hw.tape, hw.output, hw.size, hw.keep, hw.s0, hw.sin⟩, hr⟩

/-- a row becomes shared -/
theorem w_share {α : Type} [Enc α] {p : Option Addr} {k : Nat} {cs : List Value} {T : TypeId} {xs : List α} (hw : Wd fx S R E w) (i : Nat) (hr : R[i]? = some (.row p xs.length k cs T (Enc.sz α))) (j : Nat) (hj : E[j]? = some (RowA cs xs))
    (hX : fx.X = [] ∨ ∃ q b cs T, fx.X = [b] ∧ R[q]? = some (.box b cs T) ∧ Nat.beq q i = false) :
    ∃ S', Wd fx S' (R.eraseIdx i) (SlA p xs.length k xs :: E) w := by
  have hm := List.mem_of_getElem? hr
  refine ⟨fun b => S b ∨ (Res.row p xs.length k cs T (Enc.sz α)).blk = some b, ?_⟩
  have hfr : ∀ b, (Res.row p xs.length k cs T (Enc.sz α)).blk = some b → fx.w0.heap.size ≤ b := fun b hb => by
    rcases (hw.at_ _ hm b hb).2.2 with h1 | h1
    · rcases hX with hX | ⟨q, c, ds, U, hX, hq, hne⟩
      · rw [hX] at h1; cases h1
      · rw [hX] at h1
        simp only [List.mem_singleton] at h1
        subst h1
        obtain ⟨hi, he⟩ := List.getElem?_eq_some_iff.1 hr
        obtain ⟨hj', he'⟩ := List.getElem?_eq_some_iff.1 hq
        have hpw := List.pairwise_iff_getElem.1 hw.apart
        rcases Nat.lt_or_gt_of_ne (Nat.ne_of_beq_eq_false hne) with hlt | hlt
        · exact absurd (by rw [he]; exact hb) (hpw q i hj' hi hlt b (by rw [he']; rfl))
        · exact absurd (by rw [he']; rfl) (hpw i q hi hj' hlt b (by rw [he]; exact hb))
    · exact h1
  have hw2 := hw.share i hr hfr (fun b => S b ∨ (Res.row p xs.length k cs T (Enc.sz α)).blk = some b) (fun b => Iff.rfl)
  refine hw2.addE ?_
  have ho := hw.ownAt i hr
  have hR : RdL _ w cs xs := hw2.envAt j hj
  show RdSl (fun b => S b ∨ (Res.row p xs.length k cs T (Enc.sz α)).blk = some b) w p xs.length k xs
  rcases ho.2 with ⟨h1, h2⟩ | ⟨b, cap, cur, h1, h2, h3, h4, h5, h6, h7⟩
  · simp only [Value.slice.injEq] at h1
    obtain ⟨rfl, h1, rfl⟩ := h1
    exact ⟨rfl, by omega, fun _ => rfl, fun a ha => (by cases ha)⟩
  · simp only [Value.slice.injEq] at h1
    obtain ⟨rfl, _, rfl⟩ := h1
    refine ⟨rfl, h4, fun h => (by cases h), fun a ha => ?_⟩
    cases ha
    refine ⟨rfl, fun _ => .inr rfl, fun q hq => ⟨_, ?_, hR.get q hq⟩⟩
    intro c v hv
    show w.cell? ⟨b, 0 + q * Enc.sz α + c, none⟩ = some v
    rw [Nat.zero_add]
    exact row_cell ho (getElem_elem rfl hv)

/-- nil reads as the empty list -/
theorem nil_sl {α : Type} [Enc α] : (SlA (α := α) none 0 0 []).p S w := ⟨rfl, Nat.le_refl _, fun _ => rfl, fun a ha => (by cases ha)⟩
/-- .. and is a row of the call's own -/
theorem Wd.nilRow (α : Type) [Enc α] (T : TypeId) (hw : Wd fx S R E w) : Wd fx S (.row none ([] : List α).length 0 [] T (Enc.sz α) :: R) (RowA (α := α) [] [] :: E) w := by
  have h1 := hw.addE (e := RowA (α := α) [] []) rfl
  exact { h1 with
    own := fun x hx => by
      rcases List.mem_cons.1 hx with rfl | hx
      · exact ⟨by simp, .inl ⟨rfl, rfl⟩⟩
      · exact h1.own x hx
    at_ := fun x hx b hb => by
      rcases List.mem_cons.1 hx with rfl | hx
      · cases hb
      · exact h1.at_ x hx b hb
    apart := List.pairwise_cons.2 ⟨fun x hx b hb => (by cases hb), h1.apart⟩ }

/-! ### loops -/

theorem wp_while {σ β : Type} {body : σ → Option (σ ⊕ β)} {c : Code} {r : β} (J : σ → Act → World → Prop) (s : σ) (hr : whileM body s = some r) (hJ : J s a w)
    (hb : ∀ s a w t, J s a w → body s = some t → (∀ b, t = .inr b → b = r) → c.wp P (Exit.then (fun a w => ∃ s', t = .inl s' ∧ J s' a w) Q) a w) : (Code.loop c).wp P Q a w := by
  obtain ⟨n, hn⟩ := whileM_some.1 hr
  refine wp_loop_ghost (fun n a w => ∃ s, iterN body n s = some r ∧ J s a w) n ⟨s, hn, hJ⟩ ?_
  rintro n a w ⟨s, hs, hJ⟩
  cases n with
  | zero => simp [iterN] at hs
  | succ n =>
    simp only [iterN] at hs
    cases ht : body s with
    | none => rw [ht] at hs; cases hs
    | some t =>
      rw [ht] at hs
      refine wp_mono (hb s a w t hJ ht (fun b hb => ?_)) fun e a' w' hq => ?_
      · subst hb; exact Option.some.inj hs
      · cases e with
        | normal =>
          obtain ⟨s', rfl, hJ'⟩ := hq
          exact ⟨n, Nat.lt_succ_self n, s', hs, hJ'⟩
        | exit id => exact hq
        | goto l => exact hq
        | ret => exact hq
        | panic ch => exact hq
        | outgrown => exact hq

/-! ### ways that meet again, and statements whose order is open -/

theorem wp_join {c : Code} (J : Act → World → Prop) (h1 : c.wp P (Exit.then J Q) a w) (h2 : ∀ a w, J a w → Q .normal a w) : c.wp P Q a w :=
  wp_mono h1 fun e a w h => by cases e <;> first | exact h2 _ _ h | exact h
theorem wpl_join (n : Nat) {l : List Oper} (J : Act → World → Prop) (h1 : wpList P ops (Exit.then J Q) (l.take n) a w) (h2 : ∀ a w, J a w → wpList P ops Q (l.drop n) a w) : wpList P ops Q l a w := by
  have key : ∀ (n : Nat) (l : List Oper) (a : Act) (w : World), wpList P ops (Exit.then J Q) (l.take n) a w → (∀ a w, J a w → wpList P ops Q (l.drop n) a w) → wpList P ops Q l a w := by
    intro n
    induction n with
    | zero => intro l a w h1 h2; simpa using h2 a w (by simpa [wpList, Exit.then] using h1)
    | succ n ih =>
      intro l a w h1 h2
      cases l with
      | nil => exact h2 a w (by simpa [wpList, Exit.then] using h1)
      | cons o l =>
        simp only [List.take_succ_cons, wpList] at h1 ⊢
        have hK : ∀ a w, wpList P ops (Exit.then J Q) (l.take n) a w → wpList P ops Q l a w := fun a w h => ih l a w h (by simpa using h2)
        split
        · rename_i hw
          rw [if_pos hw] at h1
          rcases h1 with h1 | ⟨h1, a0, w0, h3⟩
          · refine .inl ?_
            unfold Oper.wp at *
            generalize (execOp a.eval o).run P w = r at *
            cases r with
            | ok nx w' =>
              cases nx <;> simp only [Oper.upon] at h1 ⊢ <;>
                first
                  | exact hK _ _ h1
                  | exact Calls.mono h1 (fun e w'' he => by cases e <;> first | exact hK _ _ he | exact he)
                  | exact Rows.mono h1 (fun _ _ he => hK _ _ he)
            | halt x w' => cases x <;> simp only [Oper.upon] at h1 ⊢ <;> exact h1
          · exact .inr ⟨h1, a0, w0, h3⟩
        · rename_i hw
          rw [if_neg hw] at h1
          exact hK _ _ h1
  exact key n l a w h1 h2

theorem Sl.fix (hs : Sl N L a) (t : Nat) {u : Value} (v : Value) (h : lk t L = some u) (e : u = v) : Sl N ((t, v) :: L) a := by
  refine ⟨hs.size, hs.defers, fun t' x hx => ?_⟩
  simp only [lk] at hx
  cases hb : Nat.beq t t' with
  | true =>
    rw [hb] at hx
    have := Nat.eq_of_beq_eq_true hb
    subst this
    simp only [cond_true, Option.some.injEq] at hx
    subst hx; subst e
    exact hs.slot _ _ h
  | false => rw [hb] at hx; exact hs.slot _ _ (by simpa using hx)
theorem and_t {b e : Bool} (h : b = true) : Value.bool e = Value.bool (b && e) := by rw [h]; rfl
theorem and_f {b e : Bool} (h : b = false) : Value.bool false = Value.bool (b && e) := by rw [h]; rfl
theorem or_t {b e : Bool} (h : b = true) : Value.bool true = Value.bool (b || e) := by rw [h]; rfl
theorem or_f {b e : Bool} (h : b = false) : Value.bool e = Value.bool (b || e) := by rw [h]; rfl
theorem vb {b c : Bool} (h : b = c) : Value.bool b = Value.bool c := by rw [h]
theorem vi {k : IntKind} {m n : Int} (h : some m = some n) : Value.int k m = Value.int k n := by rw [Option.some.inj h]
theorem vbs {m n : Bool} (h : some m = some n) : Value.bool m = Value.bool n := by rw [Option.some.inj h]

/-- nothing but a normal end -/
def OnlyN (J : Act → World → Prop) : Exit → Act → World → Prop
  | .normal, a, w => J a w
  | _, _, _ => False
theorem wp_only {c : Code} (J : Act → World → Prop) (h1 : c.wp P (OnlyN J) a w) (h2 : ∀ a w, J a w → Q .normal a w) : c.wp P Q a w :=
  wp_mono h1 fun e a w h => by cases e <;> first | exact h2 _ _ h | exact h.elim

/-- worlds in which resources and shared memory are as they are told -/
structure Cls (R : List Res) (E : List Asrt) (w : World) : Prop where
  own : ∀ r, r ∈ R → r.own w
  env : ∀ e, e ∈ E → ∃ S, e.p S w
theorem Cls.ownAt {R : List Res} {E : List Asrt} (h : Cls R E w) (i : Nat) {r : Res} (he : R[i]? = some r) : r.own w := h.own r (List.mem_of_getElem? he)
theorem Cls.ceAt {R : List Res} {E : List Asrt} (h : Cls R E w) (i : Nat) {e : Asrt} (he : E[i]? = some e) : ∃ S, e.p S w := h.env e (List.mem_of_getElem? he)
theorem Wd.cls (hw : Wd fx S R E w) {R' : List Res} {E' : List Asrt} (is : List Nat) (hs : Sel R is R') (he : AllIn E E') : Cls R' E' w :=
  ⟨fun r hr => by obtain ⟨i, _, h⟩ := hs.mem r hr; exact hw.own r (List.mem_of_getElem? h), fun e h => ⟨S, hw.env e (he.mem e h)⟩⟩

section held
variable {J : Act → World → Prop} {C : World → Prop} {fuel : Nat} {listed : Array Bool}
theorem h_begin {id n : Nat} (hm : P.follows .mixedOrders = true) (hn : ops.size = n) (h : wpAnyH P .any ops (OnlyN J) C n (Array.replicate n false) a { w with drawn := w.drawn + 1 }) : (Code.region id ops true).wp P (OnlyN J) a w := by
  subst hn; exact wp_region_held hm h
theorem h_take {i : Nat} {o : Oper} {v : Value} (hs : Sl N L a) (hi : ops[i]? = some o) (hsel : Region.noSelect ops = true) (hf : Region.free .any ops listed i = true) (hr : (Region.ready .any ops listed).contains i = true)
    (hw : Wanted ops L o.guard) (hd : o.dst = some d) (hN : Nat.ble (d + 1) N = true) (hC : C w) (hy : ∀ w, C w → Yd P o L w v)
    (k : ∀ a, Sl N ((d, v) :: L) a → wpAnyH P .any ops (OnlyN J) C fuel (listed.setIfInBounds i true) a w) : wpAnyH P .any ops (OnlyN J) C (fuel + 1) listed a w := by
  refine wpAnyH_take hi hsel hf hr (fun _ _ _ h => h.elim) (.inl ⟨hw.out hs, fun w hCw => hy w hCw a (fun x u => hs.ev)⟩) hC ?_
  rw [hd]
  exact k _ (hs.put d v hN)
theorem h_skip {i t j : Nat} {b : Bool} {o : Oper} {u : Value} (hs : Sl N L a) (hi : ops[i]? = some o) (hsel : Region.noSelect ops = true) (hf : Region.free .any ops listed i = true) (hr : (Region.ready .any ops listed).contains i = true)
    (hg : o.guard = some (j, b)) (ht : (ops[j]?).bind (·.dst) = some t) (hb : lk t L = some u) (hu : u = .bool (!b) ∨ u = undef) (hd : o.dst = some d) (hN : Nat.ble (d + 1) N = true) (hC : C w)
    (k : ∀ a, Sl N ((d, undef) :: L) a → wpAnyH P .any ops (OnlyN J) C fuel (listed.setIfInBounds i true) a w) : wpAnyH P .any ops (OnlyN J) C (fuel + 1) listed a w := by
  have hw : Region.wanted o (yielded ops a.tmps) = false := by
    simp only [Region.wanted, hg, yielded, ht, Option.bind_some, hs.slot t _ hb]
    rcases hu with rfl | rfl
    · cases b <;> rfl
    · cases b <;> rfl
  refine wpAnyH_take hi hsel hf hr (fun _ _ _ h => h.elim) (.inr ⟨hw, rfl⟩) hC ?_
  rw [hd]
  exact k _ (hs.put d undef hN)
/-- each of these comes up next -/
def AllH (P : Program) (ops : Array Oper) (J : Act → World → Prop) (C : World → Prop) (fuel : Nat) (listed : Array Bool) (a : Act) (w : World) (rs : List Nat) : Prop :=
  ∀ i, i ∈ rs → wpOp P ops (OnlyN J) i (fun a' w' => C w' ∧ wpAnyH P .any ops (OnlyN J) C fuel (listed.setIfInBounds i true) a' w') a w
theorem h_all {rs : List Nat} (hr : Region.ready .any ops listed = rs) (hne : rs.isEmpty = false) (h : AllH P ops J C fuel listed a w rs) : wpAnyH P .any ops (OnlyN J) C (fuel + 1) listed a w :=
  wpAnyH_all hr (by cases rs <;> simp_all) h
theorem AllH.nil : AllH P ops J C fuel listed a w [] := fun _ h => by cases h
theorem AllH.cons {i : Nat} {o : Oper} {rs : List Nat} (ho : ops[i]? = some o) (h : wpList P ops (Exit.then (fun a' w' => C w' ∧ wpAnyH P .any ops (OnlyN J) C fuel (listed.setIfInBounds i true) a' w') (OnlyN J)) [o] a w) (hs : AllH P ops J C fuel listed a w rs) : AllH P ops J C fuel listed a w (i :: rs) := by
  intro j hj
  rcases List.mem_cons.1 hj with rfl | hj
  · unfold wpOp
    simp only [ho]
    unfold wpList at h
    split
    · rename_i hw
      rw [if_pos hw] at h
      rcases h with h | ⟨h1, a0, w0, h3⟩
      · refine .inl ?_
        unfold Oper.wp at *
        generalize (execOp a.eval o).run P w = r at *
        cases r with
        | ok nx w' =>
          cases nx <;> simp only [Oper.upon] at h ⊢ <;>
            first
              | exact h
              | exact Calls.mono h (fun e w'' he => by cases e <;> exact he)
              | exact Rows.mono h (fun _ _ he => he)
        | halt x w' => cases x <;> simp only [Oper.upon] at h ⊢ <;> exact h
      · exact .inr ⟨h1, a0, w0, h3⟩
    · rename_i hw
      rw [if_neg hw] at h
      exact h
  · exact hs j hj
theorem h_done (hr : Region.ready .any ops listed = []) (h : J a w) : wpAnyH P .any ops (OnlyN J) C fuel listed a w := wpAnyH_done hr h _
end held

/-! ### results -/

def rvS (tmps : Array Value) : ResultVar → Sem Value
  | .tmp t => pure (tmps.getD t undef)
  | .cell a t => do loadVar t (← asAddr (tmps.getD a undef))
theorem results_eq (fn : Func) (tmps : Array Value) : results fn tmps = (do
    let vs ← fn.results.mapM (rvS tmps)
    pure (if h : vs.size = 1 then vs[0] else .tuple vs)) := rfl
def ResV (P : Program) (L : Slots) (w : World) (rv : ResultVar) (v : Value) : Prop :=
  ∀ tmps : Array Value, (∀ t u, lk t L = some u → tmps[t]? = some u) → (rvS tmps rv).run P w = .ok v w
theorem rv_tmp {t : Tmp} {v : Value} (h : lk t L = some v) : ResV P L w (.tmp t) v := fun tmps ht => by
  have := ht t v h
  simp [rvS, this]
theorem rv_cell {t : Tmp} {T T' : TypeId} {b m : Nat} {cs : List Value} (hw : Wd fx S R E w) (i : Nat) (hr : R[i]? = some (.box b cs T')) (h : lk t L = some (.pointer (some ⟨b, 0, none⟩))) (ha : AggT P T true) (hsz : SzT P T m) (hm : Nat.beq cs.length m = true) : ResV P L w (.cell t T) (.agg cs.toArray) := fun tmps ht => by
  have h1 := ht t _ h
  have h2 : tmps.getD t undef = .pointer (some ⟨b, 0, none⟩) := by simp [h1]
  simp only [rvS, h2, asAddr, Sem.run_bind, Sem.run_pure, Result.andThen_ok]
  exact run_loadVarA ha hsz (Nat.eq_of_beq_eq_true hm) (fun j v hv => by rw [Nat.zero_add]; exact cell_of_list (hw.ownAt i hr) hv)
theorem rv_cell1 {t : Tmp} {T T' : TypeId} {b : Nat} {cs : List Value} {v : Value} (hw : Wd fx S R E w) (i : Nat) (hr : R[i]? = some (.box b cs T')) (h : lk t L = some (.pointer (some ⟨b, 0, none⟩))) (ha : AggT P T false) (hv : cs[0]? = some v) : ResV P L w (.cell t T) v := fun tmps ht => by
  have h1 := ht t _ h
  have h2 : tmps.getD t undef = .pointer (some ⟨b, 0, none⟩) := by simp [h1]
  simp only [rvS, h2, asAddr, Sem.run_bind, Sem.run_pure, Result.andThen_ok]
  exact run_loadVar1 ha (cell_of_list (hw.ownAt i hr) hv)

theorem ret1 {fn : Func} {Rl : Ending → World → Prop} {r1 : ResultVar} {v1 : Value} (hs : Sl N L a) (hf : fn.results = #[r1]) (h1 : ResV P L w r1 v1) (hR : Rl (.returned v1) w) : bodyPost P fn Rl .ret a w := by
  refine ⟨hs.defers, v1, ?_, hR⟩
  have e1 := h1 a.tmps hs.slot
  rw [results_eq, hf]
  simp [e1]
theorem ret0 {fn : Func} {Rl : Ending → World → Prop} (hs : Sl N L a) (hf : fn.results = #[]) (hR : Rl (.returned (.tuple #[])) w) : bodyPost P fn Rl .ret a w :=
  ⟨hs.defers, .tuple #[], results_none hf _ _ _, hR⟩
theorem ret2 {fn : Func} {Rl : Ending → World → Prop} {r1 r2 : ResultVar} {v1 v2 : Value} (hs : Sl N L a) (hf : fn.results = #[r1, r2]) (h1 : ResV P L w r1 v1) (h2 : ResV P L w r2 v2) (hR : Rl (.returned (.tuple #[v1, v2])) w) : bodyPost P fn Rl .ret a w := by
  refine ⟨hs.defers, .tuple #[v1, v2], ?_, hR⟩
  have e1 := h1 a.tmps hs.slot
  have e2 := h2 a.tmps hs.slot
  rw [results_eq, hf]
  simp [e1, e2]
theorem ret3 {fn : Func} {Rl : Ending → World → Prop} {r1 r2 r3 : ResultVar} {v1 v2 v3 : Value} (hs : Sl N L a) (hf : fn.results = #[r1, r2, r3]) (h1 : ResV P L w r1 v1) (h2 : ResV P L w r2 v2) (h3 : ResV P L w r3 v3) (hR : Rl (.returned (.tuple #[v1, v2, v3])) w) : bodyPost P fn Rl .ret a w := by
  refine ⟨hs.defers, .tuple #[v1, v2, v3], ?_, hR⟩
  have e1 := h1 a.tmps hs.slot
  have e2 := h2 a.tmps hs.slot
  have e3 := h3 a.tmps hs.slot
  rw [results_eq, hf]
  simp [e1, e2, e3]
end steps
end Go.Proofs.Ytdifjkamipeibaa.Wk

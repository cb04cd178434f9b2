/- A library for walks over any program: statements whose order is open, each operation shown once. No statement of the seat is used here. -/
import Derived.Test.YthdimlepjpnncaaGreatLibJ
namespace Go.Proofs.YthdimlepjpnncaaGreat.Wk
open Go Go.RowKit Go.Proofs.YthdimlepjpnncaaGreat.Sh
set_option linter.unusedSimpArgs false
set_option linter.unusedVariables false

theorem beqF {a b : Nat} (h : a ≠ b) : Nat.beq a b = false := by
  cases hb : Nat.beq a b with
  | false => rfl
  | true => exact absurd (Nat.eq_of_beq_eq_true hb) h
/-- one more has come up -/
def upd (l : Nat → Bool) (i : Nat) : Nat → Bool := fun j => bif Nat.beq i j then true else l j
/-- operation i waits for operation k -/
def depB (ops : Array Oper) (i k : Nat) : Bool := match ops[i]? with
  | some o => o.after.toList.any fun e => Nat.beq e.on k && Region.binds .any e
  | none => false
/-- the ranks rise: none waits for itself -/
def rkOK (ops : Array Oper) (rk : List Nat) : Bool :=
  (List.range ops.size).all fun i => match ops[i]? with
    | some o => o.after.all fun e => !Region.binds .any e || (Nat.blt e.on ops.size && Nat.blt (rk.getD e.on 0) (rk.getD i 0))
    | none => true

section phi
variable {P : Program} {ops : Array Oper} {Q : Exit → Act → World → Prop} {J : Act → World → Prop} {Φ : (Nat → Bool) → Act → World → Prop}

/-- what is shown of operation i -/
def PhiS (P : Program) (ops : Array Oper) (Q : Exit → Act → World → Prop) (Φ : (Nat → Bool) → Act → World → Prop) (i : Nat) : Prop :=
  ∀ (l : Nat → Bool), l i = false → (∀ k, depB ops i k = true → l k = true) → (∀ j k, depB ops j k = true → l j = true → l k = true) →
    ∀ a w, Φ l a w → wpOp P ops Q i (Φ (upd l i)) a w

theorem depB_of {i k : Nat} {o : Oper} (ho : ops[i]? = some o) {e : Edge} (he : e ∈ o.after) (hb : Region.binds .any e = true) (hk : e.on = k) : depB ops i k = true := by
  unfold depB
  rw [ho]
  simp only [List.any_eq_true]
  exact ⟨e, by simpa using he, by simp [hk, hb]⟩
theorem of_depB {i k : Nat} (h : depB ops i k = true) : ∃ o, ops[i]? = some o ∧ ∃ e ∈ o.after, Region.binds .any e = true ∧ e.on = k := by
  unfold depB at h
  split at h
  · next o ho =>
    simp only [List.any_eq_true] at h
    obtain ⟨e, he, h2⟩ := h
    simp only [Bool.and_eq_true] at h2
    exact ⟨o, ho, e, by simpa using he, h2.2, Nat.eq_of_beq_eq_true h2.1⟩
  · cases h

theorem count_set {l : List Bool} : ∀ {i : Nat}, l[i]? = some false → (l.set i true).count false + 1 = l.count false := by
  induction l with
  | nil => intro i h; simp at h
  | cons b l ih =>
    intro i h
    cases i with
    | zero => simp only [List.getElem?_cons_zero, Option.some.injEq] at h; subst h; simp
    | succ i =>
      have := ih (i := i) (by simpa using h)
      simp only [List.set_cons_succ, List.count_cons]
      omega

theorem wpAny_phi (rk : List Nat) (hrk : rkOK ops rk = true) (hstep : ∀ i, i < ops.size → PhiS P ops Q Φ i) (hdone : ∀ l a w, (∀ i, i < ops.size → l i = true) → Φ l a w → Q .normal a w) :
    ∀ (fuel : Nat) (listed : Array Bool) (a : Act) (w : World), listed.size = ops.size → listed.toList.count false ≤ fuel →
      (∀ j k, depB ops j k = true → listed.getD j false = true → listed.getD k false = true) → Φ (fun i => listed.getD i false) a w → wpAny P .any ops Q fuel listed a w := by
  -- none ready: all have come up
  have hall : ∀ (listed : Array Bool), listed.size = ops.size → Region.ready .any ops listed = [] → ∀ i, i < ops.size → listed.getD i false = true := by
    intro listed hsz hr
    have key : ∀ n i, rk.getD i 0 = n → i < ops.size → listed.getD i false = true := by
      intro n
      induction n using Nat.strongRecOn with
      | _ n ih =>
        intro i hn hi
        cases hl : listed.getD i false with
        | true => rfl
        | false =>
          exfalso
          have hmem : i ∈ Region.ready .any ops listed := by
            refine mem_ready.2 ⟨?_, ops[i], by simp [hi], fun e he hb => ?_⟩
            · simp only [Array.getD_eq_getD_getElem?] at hl ⊢
              have : i < listed.size := by omega
              simp only [this, Array.getElem?_eq_getElem, Option.getD_some] at hl ⊢
              exact hl
            · have h1 := List.all_eq_true.1 hrk i (List.mem_range.2 hi)
              simp only [hi, Array.getElem?_eq_getElem] at h1
              have h2 := (Array.all_eq_true'.1 h1) e he
              simp only [hb, Bool.not_true, Bool.false_or, Bool.and_eq_true, Nat.blt_eq] at h2
              have := ih (rk.getD e.on 0) (by rw [← hn]; exact h2.2) e.on rfl h2.1
              exact this
          rw [hr] at hmem
          cases hmem
    exact fun i hi => key _ i rfl hi
  intro fuel
  induction fuel with
  | zero =>
    intro listed a w hsz hc hdc hΦ
    have h0 : ∀ i, i < ops.size → listed.getD i false = true := fun i hi => by
      have hlt : i < listed.toList.length := by simpa [hsz] using hi
      cases hl : listed.toList[i] with
      | true => simp only [Array.getD_eq_getD_getElem?]; simp only [Array.getElem_toList] at hl; simp [hsz, hi, hl]
      | false =>
        have : false ∈ listed.toList := hl ▸ List.getElem_mem hlt
        have := List.count_pos_iff.2 this
        omega
    refine ⟨?_, hdone _ _ _ h0 hΦ⟩
    refine List.eq_nil_iff_forall_not_mem.2 fun i hi => ?_
    obtain ⟨h1, o, ho, _⟩ := mem_ready.1 hi
    have hi' : i < ops.size := (Array.getElem?_eq_some_iff.1 ho).1
    have := h0 i hi'
    simp only [Array.getD_eq_getD_getElem?] at this h1
    have hq : i < listed.size := by omega
    simp only [hq, Array.getElem?_eq_getElem, Option.getD_some] at this h1
    rw [h1] at this
    cases this
  | succ fuel ih =>
    intro listed a w hsz hc hdc hΦ
    refine ⟨fun hr => hdone _ _ _ (hall listed hsz hr) hΦ, fun i hi => ?_⟩
    obtain ⟨h1, o, ho, h2⟩ := mem_ready.1 hi
    have hi' : i < ops.size := (Array.getElem?_eq_some_iff.1 ho).1
    have hq : i < listed.size := by omega
    have hf : listed.getD i false = false := by
      simp only [Array.getD_eq_getD_getElem?] at h1 ⊢
      simp only [hq, Array.getElem?_eq_getElem, Option.getD_some] at h1 ⊢
      exact h1
    have eupd : (fun j => (listed.setIfInBounds i true).getD j false) = upd (fun j => listed.getD j false) i := by
      funext j
      simp only [upd, Array.getD_eq_getD_getElem?]
      by_cases hij : i = j
      · subst hij; simp [hq]
      · simp [Nat.beq_eq, hij, Array.getElem?_setIfInBounds_ne hij]
    have hdep : ∀ k, depB ops i k = true → listed.getD k false = true := fun k hk => by
      obtain ⟨o', ho', e, he, hb, rfl⟩ := of_depB hk
      rw [ho] at ho'
      obtain rfl := Option.some.inj ho'
      exact h2 e he hb
    refine wpOp_mono (fun a' w' h' => ih _ a' w' (by simpa using hsz) ?_ ?_ (by rw [eupd]; exact h')) (hstep i hi' _ hf hdep hdc a w hΦ)
    · have hcnt := count_set (l := listed.toList) (i := i) (by
        simp only [Array.getElem?_toList]
        simp only [Array.getD_eq_getD_getElem?, hq, Array.getElem?_eq_getElem, Option.getD_some] at hf
        simp [hq, hf])
      simp only [Array.toList_setIfInBounds]
      omega
    · intro j k hjk hj
      have e1 : (listed.setIfInBounds i true).getD j false = upd (fun j => listed.getD j false) i j := congrFun eupd j
      have e2 : (listed.setIfInBounds i true).getD k false = upd (fun j => listed.getD j false) i k := congrFun eupd k
      rw [e1] at hj
      rw [e2]
      unfold upd at hj ⊢
      by_cases hk : i = k
      · subst hk; simp
      · rw [beqF hk, cond_false]
        by_cases hij : i = j
        · subst hij; exact hdep k hjk
        · rw [beqF hij, cond_false] at hj
          exact hdc j k hjk hj

theorem wp_region_phi {id n : Nat} {a : Act} {w : World} (rk : List Nat) (hm : P.follows .mixedOrders = true) (hn : ops.size = n) (hrk : rkOK ops rk = true) (h0 : Φ (fun _ => false) a { w with drawn := w.drawn + 1 })
    (hstep : ∀ i, i < n → PhiS P ops Q Φ i) (hdone : ∀ l a w, (∀ i, i < n → l i = true) → Φ l a w → Q .normal a w) : (Code.region id ops true).wp P Q a w := by
  subst hn
  have e : (fun i => (Array.replicate ops.size false).getD i false) = fun _ => false := by
    funext i
    simp only [Array.getD_eq_getD_getElem?, Array.getElem?_replicate]
    split <;> rfl
  refine wp_region_any hm (wpAny_phi rk hrk hstep hdone ops.size _ a _ (by simp) ?_ ?_ (by rw [e]; exact h0))
  · simp only [Array.toList_replicate, List.count_replicate_self, Nat.le_refl]
  · intro j k _ hj
    rw [congrFun e j] at hj
    cases hj

/-- those below n, one after the other -/
def AllS (S : Nat → Prop) (n : Nat) : Prop := ∀ i, i < n → S i
theorem AllS.zero {S : Nat → Prop} : AllS S 0 := fun _ h => absurd h (Nat.not_lt_zero _)
theorem AllS.succ {S : Nat → Prop} {n : Nat} (h : AllS S n) (s : S n) : AllS S (n + 1) := fun i hi => by
  by_cases e : i = n
  · subst e; exact s
  · exact h i (by omega)

theorem l_neg {l : Nat → Bool} (hdc : ∀ j k, depB ops j k = true → l j = true → l k = true) {k : Nat} (j : Nat) (hk : l k = false) (hd : depB ops j k = true) : l j = false := by
  cases h : l j with
  | false => rfl
  | true => rw [hdc j k hd h] at hk; cases hk

section short
variable {N : Nat} {L : Slots} {a : Act} {w : World} {C C' : World → Prop} {fuel : Nat} {listed : Array Bool} {d : Nat}
theorem h_g (hs : Sl N L a) (i : Nat) {o : Oper} {v : Value} (hi : ops[i]? = some o) (hc : (Region.noSelect ops && Region.free .any ops listed i && (Region.ready .any ops listed).contains i) = true)
    (hd : o.dst = some d) (hN : Nat.ble (d + 1) N = true) (hC : C w) (hg : o.guard = none) (hy : ∀ w, C w → Yd P o L w v)
    (k : ∀ a, Sl N ((d, v) :: L) a → wpAnyH P .any ops (OnlyN J) C fuel (listed.setIfInBounds i true) a w) : wpAnyH P .any ops (OnlyN J) C (fuel + 1) listed a w := h_get hs hi hc hd hN hC hg hy k
theorem h_t (hs : Sl N L a) (i : Nat) {o : Oper} {v : Value} (hi : ops[i]? = some o) (hc : (Region.noSelect ops && Region.free .any ops listed i && (Region.ready .any ops listed).contains i) = true)
    (hw : Wanted ops L o.guard) (hd : o.dst = some d) (hN : Nat.ble (d + 1) N = true) (hC : C w) (hy : ∀ w, C w → Yd P o L w v)
    (k : ∀ a, Sl N ((d, v) :: L) a → wpAnyH P .any ops (OnlyN J) C fuel (listed.setIfInBounds i true) a w) : wpAnyH P .any ops (OnlyN J) C (fuel + 1) listed a w := by
  simp only [Bool.and_eq_true] at hc
  exact h_take hs hi hc.1.1 hc.1.2 hc.2 hw hd hN hC hy k
theorem h_s (hs : Sl N L a) (i : Nat) {t j : Nat} {b : Bool} {o : Oper} {u : Value} (hi : ops[i]? = some o) (hc : (Region.noSelect ops && Region.free .any ops listed i && (Region.ready .any ops listed).contains i) = true)
    (hg : o.guard = some (j, b)) (ht : (ops[j]?).bind (·.dst) = some t) (hb : lk t L = some u) (hu : u = .bool (!b) ∨ u = undef) (hd : o.dst = some d) (hN : Nat.ble (d + 1) N = true) (hC : C w)
    (k : ∀ a, Sl N ((d, undef) :: L) a → wpAnyH P .any ops (OnlyN J) C fuel (listed.setIfInBounds i true) a w) : wpAnyH P .any ops (OnlyN J) C (fuel + 1) listed a w := by
  simp only [Bool.and_eq_true] at hc
  exact h_skip hs hi hc.1.1 hc.1.2 hc.2 hg ht hb hu hd hN hC k
theorem h_nx {X : Act → World → Prop} (hC : C w) (h : C w → X a w) : wpList P ops (Exit.then (fun a' w' => C w' ∧ X a' w') (OnlyN J)) [] a w := wpList_nil (then_normal ⟨hC, h hC⟩)
theorem h_b {id n : Nat} (hm : P.follows .mixedOrders = true) (hn : ops.size = n) (hC : C { w with drawn := w.drawn + 1 }) (h : C { w with drawn := w.drawn + 1 } → wpAnyH P .any ops (OnlyN J) C n (Array.replicate n false) a { w with drawn := w.drawn + 1 }) : (Code.region id ops true).wp P (OnlyN J) a w := h_begin hm hn (h hC)
theorem h_st (hc : ∀ w, C' w → C w) (hC : C' w) (h : C' w → wpAnyH P .any ops (OnlyN J) C' fuel listed a w) : wpAnyH P .any ops (OnlyN J) C fuel listed a w := h_strong hc (h hC)
theorem h_one {i : Nat} {o : Oper} (hr : Region.ready .any ops listed = [i]) (ho : ops[i]? = some o) (h : wpList P ops (Exit.then (fun a' w' => C w' ∧ wpAnyH P .any ops (OnlyN J) C fuel (listed.setIfInBounds i true) a' w') (OnlyN J)) [o] a w) : wpAnyH P .any ops (OnlyN J) C (fuel + 1) listed a w :=
  h_all hr rfl (AllH.cons ho h AllH.nil)
end short
/-! ### slots -/
/-- rows (operation, slot, value): what a slot holds once its operation has come up -/
abbrev Vs := List (Nat × Nat × Value)
def vsOK (N : Nat) (base : List Nat) : List (Nat × Nat) → Bool
  | [] => true
  | (i, t) :: r => Nat.ble (t + 1) N && !(base.any (Nat.beq t)) && r.all (fun x => !(Nat.beq x.1 i) && !(Nat.beq x.2 t)) && vsOK N base r
structure SlF (N : Nat) (base : Slots) (vs : Vs) (l : Nat → Bool) (a : Act) : Prop where
  size : a.tmps.size = N
  defers : a.defers = []
  base_ : ∀ t v, lk t base = some v → a.tmps[t]? = some v
  slot : ∀ x, x ∈ vs → l x.1 = true → a.tmps[x.2.1]? = some x.2.2
  ok : vsOK N (List.map (fun x : Nat × Value => x.1) base) (vs.map fun x => (x.1, x.2.1)) = true

inductive On (l : Nat → Bool) (base : Slots) (vs : Vs) : Slots → Prop
  | nil : On l base vs []
  | b {t : Nat} {v : Value} {L : Slots} (h : lk t base = some v) (r : On l base vs L) : On l base vs ((t, v) :: L)
  | v (q : Nat) {i t : Nat} {v : Value} {L : Slots} (h : vs[q]? = some (i, t, v)) (hl : l i = true) (r : On l base vs L) : On l base vs ((t, v) :: L)

variable {N : Nat} {base : Slots} {vs vs' : Vs} {l : Nat → Bool} {a : Act} {w : World} {L : Slots}

theorem SlF.at_ (h : SlF N base vs l a) (hL : On l base vs L) : ∀ t v, lk t L = some v → a.tmps[t]? = some v := by
  induction hL with
  | nil => intro t v hv; cases hv
  | b hb r ih =>
    intro t v hv
    simp only [lk] at hv
    cases hx : Nat.beq _ t with
    | true => rw [hx] at hv; have := Nat.eq_of_beq_eq_true hx; subst this; simp at hv; subst hv; exact h.base_ _ _ hb
    | false => rw [hx] at hv; exact ih t v (by simpa using hv)
  | v q hq hl r ih =>
    intro t v hv
    simp only [lk] at hv
    cases hx : Nat.beq _ t with
    | true => rw [hx] at hv; have := Nat.eq_of_beq_eq_true hx; subst this; simp at hv; subst hv; exact h.slot _ (List.mem_of_getElem? hq) hl
    | false => rw [hx] at hv; exact ih t v (by simpa using hv)
theorem SlF.on (h : SlF N base vs l a) (hL : On l base vs L) : Sl N L a := ⟨h.size, h.defers, h.at_ hL⟩

/-- all slots as they are -/
def full (a : Act) : Slots := (List.range a.tmps.size).map fun t => (t, a.tmps.getD t undef)
def app : Slots → Slots → Slots
  | [], r => r
  | x :: l, r => x :: app l r
theorem lk_app {t : Nat} : ∀ {L r : Slots}, lk t (app L r) = (lk t L).or (lk t r)
  | [], r => by simp [app, lk]
  | (k, v) :: L, r => by
    simp only [app, lk]
    cases hb : Nat.beq k t with
    | true => simp
    | false => simp [lk_app]
theorem lk_full {t : Nat} : lk t (full a) = a.tmps[t]? := by
  unfold full
  have key : ∀ (ts : List Nat), lk t (ts.map fun t => (t, a.tmps.getD t undef)) = if t ∈ ts then some (a.tmps.getD t undef) else none := by
    intro ts
    induction ts with
    | nil => rfl
    | cons x ts ih =>
      simp only [List.map_cons, lk, ih, List.mem_cons]
      by_cases hx : x = t
      · subst hx; simp
      · have : Nat.beq x t = false := beqF hx
        simp [this, Ne.symm hx]
  rw [key]
  by_cases ht : t < a.tmps.size
  · rw [if_pos (List.mem_range.2 ht)]
    simp [ht]
  · rw [if_neg (by simpa using ht)]
    simp [Array.getElem?_eq_none (Nat.le_of_not_lt ht)]
theorem SlF.open_ (h : SlF N base vs l a) (hL : On l base vs L) : Sl N (app L (full a)) a := by
  refine ⟨h.size, h.defers, fun t v hv => ?_⟩
  rw [lk_app] at hv
  cases hx : lk t L with
  | some u => rw [hx] at hv; simp at hv; subst hv; exact h.at_ hL t _ hx
  | none => rw [hx] at hv; simp at hv; rw [lk_full] at hv; exact hv

/-- how the rows may turn when operation i has come up: its own row; rows of those that wait for it -/
inductive Cl (l : Nat → Bool) (i d : Nat) (v : Value) : Vs → Vs → Prop
  | nil : Cl l i d v [] []
  | same {x : Nat × Nat × Value} {r r' : Vs} (h : Cl l i d v r r') : Cl l i d v (x :: r) (x :: r')
  | neg {j t : Nat} {u u' : Value} {r r' : Vs} (hl : l j = false) (hj : Nat.beq i j = false) (h : Cl l i d v r r') : Cl l i d v ((j, t, u) :: r) ((j, t, u') :: r')
  | here {u : Value} {r r' : Vs} (h : Cl l i d v r r') : Cl l i d v ((i, d, u) :: r) ((i, d, v) :: r')
theorem Cl.keys {i d : Nat} {v : Value} (h : Cl l i d v vs vs') : vs'.map (fun x => (x.1, x.2.1)) = vs.map fun x => (x.1, x.2.1) := by
  induction h with
  | nil => rfl
  | same h ih => simp [ih]
  | neg hl hj h ih => simp [ih]
  | here h ih => simp [ih]
theorem Cl.mem {i d : Nat} {v : Value} (h : Cl l i d v vs vs') : ∀ x, x ∈ vs' → x ∈ vs ∨ (l x.1 = false ∧ x.1 ≠ i) ∨ x = (i, d, v) := by
  induction h with
  | nil => intro x hx; cases hx
  | same h ih =>
    intro x hx
    rcases List.mem_cons.1 hx with rfl | hx
    · exact .inl (by simp)
    · rcases ih x hx with h | h
      · exact .inl (by simp [h])
      · exact .inr h
  | neg hl hj h ih =>
    intro x hx
    rcases List.mem_cons.1 hx with rfl | hx
    · exact .inr (.inl ⟨hl, fun e => by simp only at e; subst e; rw [Nat.beq_refl] at hj; cases hj⟩)
    · rcases ih x hx with h | h
      · exact .inl (by simp [h])
      · exact .inr h
  | here h ih =>
    intro x hx
    rcases List.mem_cons.1 hx with rfl | hx
    · exact .inr (.inr rfl)
    · rcases ih x hx with h | h
      · exact .inl (by simp [h])
      · exact .inr h

theorem vsOK_mem {base : List Nat} {ks : List (Nat × Nat)} : vsOK N base ks = true → ∀ x ∈ ks, x.2 < N ∧ x.2 ∉ base ∧ ∀ y ∈ ks, (y.1 = x.1 ∨ y.2 = x.2) → y = x := by
  induction ks with
  | nil => intro _ x hx; cases hx
  | cons k ks ih =>
    obtain ⟨i, t⟩ := k
    intro h x hx
    simp only [vsOK, Bool.and_eq_true, List.all_eq_true, Bool.not_eq_true'] at h
    obtain ⟨⟨⟨h1, h2⟩, h3⟩, h4⟩ := h
    have hne : ∀ y ∈ ks, y.1 ≠ i ∧ y.2 ≠ t := fun y hy => by
      have := h3 y hy
      exact ⟨Nat.ne_of_beq_eq_false this.1, Nat.ne_of_beq_eq_false this.2⟩
    rcases List.mem_cons.1 hx with rfl | hx
    · refine ⟨Nat.le_of_ble_eq_true h1, fun hm => ?_, fun y hy e => ?_⟩
      · rw [List.any_eq_false] at h2
        exact h2 _ hm (by simp)
      · rcases List.mem_cons.1 hy with rfl | hy
        · rfl
        · have := hne y hy
          rcases e with e | e
          · exact absurd e this.1
          · exact absurd e this.2
    · obtain ⟨g1, g2, g3⟩ := ih h4 x hx
      refine ⟨g1, g2, fun y hy e => ?_⟩
      rcases List.mem_cons.1 hy with rfl | hy
      · have := hne x hx
        rcases e with e | e
        · exact absurd e.symm this.1
        · exact absurd e.symm this.2
      · exact g3 y hy e

theorem SlF.close_ {a' : Act} {i d : Nat} {v : Value} (h : SlF N base vs l a) (hc : Cl l i d v vs vs') (hi : (i, d, v) ∈ vs') (h1 : a'.tmps.size = N) (h2 : a'.defers = []) (h3 : a'.tmps[d]? = some v) (h4 : ∀ t, t ≠ d → a'.tmps[t]? = a.tmps[t]?) : SlF N base vs' (upd l i) a' := by
  have hk := hc.keys
  have hok := h.ok
  rw [← hk] at hok
  have hmem := vsOK_mem hok (i, d) (List.mem_map.2 ⟨_, hi, rfl⟩)
  refine ⟨h1, h2, fun t u hu => ?_, fun x hx hl => ?_, hok⟩
  · have hne : t ≠ d := fun e => by
      subst e
      apply hmem.2.1
      have : ∀ (b : Slots), lk t b = some u → t ∈ b.map (·.1) := by
        intro b
        induction b with
        | nil => intro h; cases h
        | cons y b ih =>
          intro h
          simp only [lk] at h
          cases hb : Nat.beq y.1 t with
          | true => simp [Nat.eq_of_beq_eq_true hb]
          | false => rw [hb] at h; simp [ih (by simpa using h)]
      exact this base hu
    rw [h4 t hne]; exact h.base_ t u hu
  · have hkx : (x.1, x.2.1) ∈ vs'.map fun x => (x.1, x.2.1) := List.mem_map.2 ⟨x, hx, rfl⟩
    by_cases hxi : x.1 = i
    · have := hmem.2.2 _ hkx (.inl hxi)
      rcases hc.mem x hx with hv | ⟨_, hv⟩ | rfl
      · -- the row of i in vs is the row of i in vs'
        have hu : x = (i, d, v) := by
          have : ∀ {vs vs' : Vs}, Cl l i d v vs vs' → vsOK N (base.map (·.1)) (vs'.map fun x => (x.1, x.2.1)) = true → (i, d, v) ∈ vs' → ∀ x, x ∈ vs' → x.1 = i → x = (i, d, v) := by
            intro vs vs' hc hok hi x hx hxi
            have hkeys := vsOK_mem hok (i, d) (List.mem_map.2 ⟨_, hi, rfl⟩)
            clear hc
            induction vs' with
            | nil => cases hx
            | cons y r ih =>
              simp only [List.map_cons, vsOK, Bool.and_eq_true, List.all_eq_true, Bool.not_eq_true'] at hok
              rcases List.mem_cons.1 hi with rfl | hi'
              · rcases List.mem_cons.1 hx with rfl | hx'
                · rfl
                · have := (hok.1.2 (x.1, x.2.1) (List.mem_map.2 ⟨x, hx', rfl⟩)).1
                  rw [hxi, Nat.beq_refl] at this
                  cases this
              · rcases List.mem_cons.1 hx with rfl | hx'
                · have := (hok.1.2 (i, d) (List.mem_map.2 ⟨_, hi', rfl⟩)).1
                  rw [hxi, Nat.beq_refl] at this
                  cases this
                · exact ih hok.2 hi' hx' (vsOK_mem hok.2 (i, d) (List.mem_map.2 ⟨_, hi', rfl⟩))
          exact this hc hok hi x hx hxi
        subst hu; exact h3
      · exact absurd hxi hv
      · exact h3
    · have hlx : l x.1 = true := by
        unfold upd at hl
        rw [beqF (Ne.symm hxi), cond_false] at hl
        exact hl
      have hxd : x.2.1 ≠ d := fun e => hxi (by have := hmem.2.2 _ hkx (.inr e); exact (Prod.mk.inj this).1)
      rw [h4 _ hxd]
      rcases hc.mem x hx with hv | ⟨hv, _⟩ | rfl
      · exact h.slot x hv hlx
      · rw [hv] at hlx; cases hlx
      · exact absurd rfl hxi
theorem SlF.close {a' : Act} {i d : Nat} {v : Value} (h : SlF N base vs l a) (hL : On l base vs L) (hs : Sl N ((d, v) :: app L (full a)) a') (hd : Nat.ble (d + 1) N = true) (hc : Cl l i d v vs vs') (q : Nat) (hi : vs'[q]? = some (i, d, v)) : SlF N base vs' (upd l i) a' := by
  refine h.close_ hc (List.mem_of_getElem? hi) hs.size hs.defers (hs.slot d v (by simp [lk])) fun t ht => ?_
  by_cases hN : t < N
  · have hlt : t < a.tmps.size := by rw [h.size]; exact hN
    have e : lk t ((d, v) :: app L (full a)) = some a.tmps[t] := by
      simp only [lk, beqF (Ne.symm ht), cond_false, lk_app]
      cases hx : lk t L with
      | some u =>
        have := h.at_ hL t u hx
        rw [Array.getElem?_eq_getElem hlt] at this
        simp [Option.some.inj this]
      | none => simp [lk_full, hlt]
    rw [hs.slot t _ e, Array.getElem?_eq_getElem hlt]
  · rw [Array.getElem?_eq_none (by rw [hs.size]; omega), Array.getElem?_eq_none (by rw [h.size]; omega)]
/-- an operation without a slot -/
theorem SlF.close0 {a' : Act} {i : Nat} (h : SlF N base vs l a) (hL : On l base vs L) (hs : Sl N (app L (full a)) a') (hi : vs.all (fun x => !(Nat.beq i x.1)) = true) : SlF N base vs (upd l i) a' := by
  have e : a'.tmps = a.tmps := by
    apply Array.ext (by rw [hs.size, h.size])
    intro t h1 h2
    have := hs.slot t a.tmps[t] (by
      rw [lk_app]
      cases hx : lk t L with
      | some u =>
        have := h.at_ hL t u hx
        rw [Array.getElem?_eq_getElem h2] at this
        simp [Option.some.inj this]
      | none => simp [lk_full, h2])
    rw [Array.getElem?_eq_getElem h1] at this
    exact Option.some.inj this
  refine ⟨hs.size, hs.defers, fun t v hv => by rw [e]; exact h.base_ t v hv, fun x hx hl => ?_, h.ok⟩
  rw [e]
  refine h.slot x hx ?_
  have := List.all_eq_true.1 hi x hx
  unfold upd at hl
  simp only [Bool.not_eq_true'] at this
  rw [this, cond_false] at hl
  exact hl

theorem SlF.init (hs : Sl N base a) (ok : vsOK N (base.map (·.1)) (vs.map fun x => (x.1, x.2.1)) = true) : SlF N base vs (fun _ => false) a :=
  ⟨hs.size, hs.defers, hs.slot, fun _ _ h => (by cases h), ok⟩

/-- a value, whatever the order -/
theorem S_val {i d : Nat} {o : Oper} {v v' : Value} {K : Act → World → Prop} (h : SlF N base vs l a) (hL : On l base vs L) (ho : ops[i]? = some o) (hd : o.dst = some d) (hw : Wanted ops L o.guard) (hy : Yd P o L w v) (e : v = v') (q : Nat) (hq : vs[q]? = some (i, d, v'))
    (k : ∀ a, SlF N base vs (upd l i) a → K a w) : wpOp P ops Q i K a w := by
  subst e
  have hs := h.on hL
  have hm := vsOK_mem h.ok (i, d) (List.mem_map.2 ⟨_, List.mem_of_getElem? hq, rfl⟩)
  have hN : d < a.tmps.size := by rw [h.size]; exact hm.1
  unfold wpOp
  simp only [ho]
  rw [if_pos (hw.out hs)]
  refine .inl ?_
  unfold Oper.wp
  rw [hy a (fun x u => hs.ev), Oper.upon_value, hd]
  have hcl : ∀ (vs : Vs), Cl l i d v vs vs := by
    intro vs
    induction vs with
    | nil => exact .nil
    | cons x r ih => exact .same ih
  refine k _ (h.close_ (hcl vs) (List.mem_of_getElem? hq) (by simp [Act.put, h.size]) (by simp [Act.put, h.defers]) (by simp [Act.put, hN]) fun t ht => ?_)
  simp [Act.put, Array.getElem?_setIfInBounds_ne (Ne.symm ht)]
/-- a guarded operation that does not run -/
theorem S_skip {i d t j : Nat} {b : Bool} {o : Oper} {u : Value} {K : Act → World → Prop} (h : SlF N base vs l a) (hL : On l base vs L) (ho : ops[i]? = some o) (hg : o.guard = some (j, b)) (ht : (ops[j]?).bind (·.dst) = some t) (hb : lk t L = some u) (hu : u = .bool (!b) ∨ u = undef) (hd : o.dst = some d) (q : Nat) (hq : vs[q]? = some (i, d, undef))
    (k : ∀ a, SlF N base vs (upd l i) a → K a w) : wpOp P ops Q i K a w := by
  have hs := h.on hL
  have hm := vsOK_mem h.ok (i, d) (List.mem_map.2 ⟨_, List.mem_of_getElem? hq, rfl⟩)
  have hN : d < a.tmps.size := by rw [h.size]; exact hm.1
  have hw : Region.wanted o (yielded ops a.tmps) = false := by
    simp only [Region.wanted, hg, yielded, ht, Option.bind_some, hs.slot t _ hb]
    rcases hu with rfl | rfl
    · cases b <;> rfl
    · cases b <;> rfl
  unfold wpOp
  simp only [ho]
  rw [if_neg (by simp [hw]), hd]
  have hcl : ∀ (vs : Vs), Cl l i d undef vs vs := by
    intro vs
    induction vs with
    | nil => exact .nil
    | cons x r ih => exact .same ih
  refine k _ (h.close_ (hcl vs) (List.mem_of_getElem? hq) (by simp [Act.put, h.size]) (by simp [Act.put, h.defers]) (by simp [Act.put, hN]) fun t ht => ?_)
  simp [Act.put, Array.getElem?_setIfInBounds_ne (Ne.symm ht)]
/-- an operation that does more -/
theorem S_eff {i : Nat} {o : Oper} {K : Act → World → Prop} (ho : ops[i]? = some o) (h : wpList P ops (Exit.then K Q) [o] a w) : wpOp P ops Q i K a w := by
  unfold wpOp
  simp only [ho]
  unfold wpList at h
  split
  · rename_i hw
    rw [if_pos hw] at h
    rcases h with h | ⟨h1, a0, w0, h3⟩
    · refine .inl ?_
      unfold Oper.wp at *
      generalize (execOp a.eval o).run P w = r at *
      cases r with
      | ok nx w' =>
        cases nx <;> simp only [Oper.upon] at h ⊢ <;>
          first
            | exact h
            | exact Calls.mono h (fun e w'' he => by cases e <;> exact he)
            | exact Rows.mono h (fun _ _ he => he)
      | halt x w' => cases x <;> simp only [Oper.upon] at h ⊢ <;> exact h
    · exact .inr ⟨h1, a0, w0, h3⟩
  · rename_i hw
    rw [if_neg hw] at h
    exact h

/-! ### what is there yet -/
/-- a row that holds nothing -/
abbrev emp : Res := .row none 0 0 [] 0 1
def optA (b : Bool) (e : Asrt) : Asrt := ⟨fun S w => b = true → e.p S w, fun hk h hb => e.mono hk (h hb)⟩
theorem bT {α : Type} {b : Bool} {x y : α} (h : b = true) : (bif b then x else y) = x := by rw [h]; rfl
theorem bF {α : Type} {b : Bool} {x y : α} (h : b = false) : (bif b then x else y) = y := by rw [h]; rfl
theorem optA_no {b : Bool} {e : Asrt} {S : Nat → Prop} (h : b = false) : (optA b e).p S w := fun hb => by rw [h] at hb; cases hb

variable {fx : Fx} {S : Nat → Prop} {R : List Res} {E : List Asrt}
theorem Wd.emp (hw : Wd fx S R E w) : Wd fx S (Wk.emp :: R) E w :=
  { hw with
    own := fun x hx => by
      rcases List.mem_cons.1 hx with rfl | hx
      · exact ⟨by simp, .inl ⟨rfl, rfl⟩⟩
      · exact hw.own x hx
    at_ := fun x hx b hb => by
      rcases List.mem_cons.1 hx with rfl | hx
      · cases hb
      · exact hw.at_ x hx b hb
    apart := List.pairwise_cons.2 ⟨fun x hx b hb => (by cases hb), hw.apart⟩ }
theorem Wd.noE (hw : Wd fx S R E w) (e : Asrt) : Wd fx S R (optA false e :: E) w := hw.addE (optA_no rfl)
theorem Wd.yes (hw : Wd fx S R E w) (i : Nat) {b : Bool} {e : Asrt} (he : E[i]? = some (optA b e)) (h : b = true) : Wd fx S R (e :: E) w := hw.addE (hw.envAt i he h)
theorem Wd.opt (hw : Wd fx S R E w) (i : Nat) {e : Asrt} (he : E[i]? = some e) (b : Bool) : Wd fx S R (optA b e :: E) w := hw.addE (fun _ => hw.envAt i he)
theorem Wd.noL (hw : Wd fx S R E w) {b : Bool} (h : b = false) (e : Asrt) : Wd fx S R (optA b e :: E) w := hw.addE (optA_no h)
/-- an element of a row of the call's own, its place spelt out -/
theorem Wd.elemRX {α : Type} [Enc α] (hw : Wd fx S R E w) (i : Nat) {b k : Nat} {cs : List Value} {T : TypeId} {xs : List α} (hr : R[i]? = some (.row (some ⟨b, 0, none⟩) xs.length k cs T (Enc.sz α))) (ie : Nat) (hE : E[ie]? = some (RowA cs xs)) {j : Int} {x : α} (hx : ix xs j = some x) :
    ∃ es, (0 ≤ j ∧ j < (xs.length : Int)) ∧ (cs.drop (0 + j.toNat * Enc.sz α)).take (Enc.sz α) = es ∧ Enc.rd S w es x := by
  obtain ⟨q, es, h1, h2, h3, h4⟩ := hw.elemRK i hr ie hE hx
  subst h2
  exact ⟨es, h1, h3, h4⟩
end phi
section strs
variable {P : Program} {L : Slots} {w : World} {d : Option Tmp} {ty : TypeId} {pos : String} {af : Array Edge} {g : Option (Nat × Bool)} {x y : Operand} {xt yt : TypeId}
theorem y_leqS {b c : ByteArray} (hx : ev L x = some (.string b)) (hy : ev L y = some (.string c)) : Yd P ⟨d, .binOp .leq xt x y yt, ty, pos, af, g⟩ L w (.bool (Op.bytesLess b.toList c.toList || b.toList == c.toList)) := fun a h => by
  simp [execOp, eqGuard, binOp, h _ _ hx, h _ _ hy, Op.stringOp]
theorem y_gtrS {b c : ByteArray} (hx : ev L x = some (.string b)) (hy : ev L y = some (.string c)) : Yd P ⟨d, .binOp .gtr xt x y yt, ty, pos, af, g⟩ L w (.bool (!(Op.bytesLess b.toList c.toList || b.toList == c.toList))) := fun a h => by
  simp [execOp, eqGuard, binOp, h _ _ hx, h _ _ hy, Op.stringOp]
theorem y_geqS {b c : ByteArray} (hx : ev L x = some (.string b)) (hy : ev L y = some (.string c)) : Yd P ⟨d, .binOp .geq xt x y yt, ty, pos, af, g⟩ L w (.bool (!Op.bytesLess b.toList c.toList)) := fun a h => by
  simp [execOp, eqGuard, binOp, h _ _ hx, h _ _ hy, Op.stringOp]
end strs
end Go.Proofs.YthdimlepjpnncaaGreat.Wk

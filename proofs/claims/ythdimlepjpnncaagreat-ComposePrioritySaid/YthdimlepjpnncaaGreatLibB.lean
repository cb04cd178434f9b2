/- A library for walks over any program: how data lie in memory, what a call owns, and what each step does to both. No statement of the seat is used here. -/
import Derived.Test.YthdimlepjpnncaaGreatLibA
import Derived.Test.YthdimlepjpnncaaGreatLibS
import Derived.Deep.LoopGhost
import Derived.Maps.Own
import Derived.Maps.Views
namespace Go.Proofs.YthdimlepjpnncaaGreat.Wk
open Go Go.RowKit Go.Proofs.YthdimlepjpnncaaGreat.Sh
set_option linter.unusedSimpArgs false
set_option linter.unusedVariables false

/-- the blocks of S are blocks of S' too, and hold what they held -/
def Keep (S S' : Nat → Prop) (w w' : World) : Prop := ∀ b, S b → S' b ∧ w'.heap[b]? = w.heap[b]?

/-- data of one cell -/
class Leaf (α : Type) where
  rd1 : (Nat → Prop) → World → Value → α → Prop
  mono : ∀ {S S' : Nat → Prop} {w w' : World} {v : Value} {d : α}, Keep S S' w w' → rd1 S w v d → rd1 S' w' v d
  one : ∀ {S : Nat → Prop} {w : World} {v : Value} {d : α}, rd1 S w v d → v.oneCell' = true

/-- data of sz cells -/
class Enc (α : Type) where
  sz : Nat
  val : List Value → Value
  rd : (Nat → Prop) → World → List Value → α → Prop
  mono : ∀ {S S' : Nat → Prop} {w w' : World} {cs : List Value} {d : α}, Keep S S' w w' → rd S w cs d → rd S' w' cs d
  len : ∀ {S : Nat → Prop} {w : World} {cs : List Value} {d : α}, rd S w cs d → cs.length = sz
  one : ∀ {S : Nat → Prop} {w : World} {cs : List Value} {d : α}, rd S w cs d → ∀ c ∈ cs, c.oneCell' = true

instance : Leaf Int where
  rd1 := fun _ _ v d => v = .int .i64 d
  mono := fun _ h => h
  one := fun h => by rw [h]; rfl
instance : Leaf Bool where
  rd1 := fun _ _ v d => v = .bool d
  mono := fun _ h => h
  one := fun h => by rw [h]; rfl
instance : Leaf ByteArray where
  rd1 := fun _ _ v d => v = .string d
  mono := fun _ h => h
  one := fun h => by rw [h]; rfl

instance (priority := low) encLeaf {α : Type} [Leaf α] : Enc α where
  sz := 1
  val := fun cs => cs.headD undef
  rd := fun S w cs d => ∃ v, cs = [v] ∧ Leaf.rd1 S w v d
  mono := fun hk ⟨v, h1, h2⟩ => ⟨v, h1, Leaf.mono hk h2⟩
  len := fun ⟨v, h1, _⟩ => by rw [h1]; rfl
  one := fun ⟨v, h1, h2⟩ c hc => by rw [h1] at hc; simp at hc; rw [hc]; exact Leaf.one h2

/-- the cells of w from ⟨b, o⟩ on are cs -/
def CellsAt (w : World) (b o : Nat) (cs : List Value) : Prop := ∀ j v, cs[j]? = some v → w.cell? ⟨b, o + j, none⟩ = some v

theorem cell_keep {S S' : Nat → Prop} {w w' : World} (hk : Keep S S' w w') {b o : Nat} (hb : S b) : w'.cell? ⟨b, o, none⟩ = w.cell? ⟨b, o, none⟩ := by
  simp [World.cell?, (hk b hb).2]
theorem CellsAt.keep {S S' : Nat → Prop} {w w' : World} (hk : Keep S S' w w') {b o : Nat} {cs : List Value} (hb : S b) (h : CellsAt w b o cs) : CellsAt w' b o cs :=
  fun j v hv => by rw [cell_keep hk hb]; exact h j v hv

/-- the slice value 'slice p n k' reads as the list xs -/
def RdSl {α : Type} [Enc α] (S : Nat → Prop) (w : World) (p : Option Addr) (n k : Nat) (xs : List α) : Prop :=
  n = xs.length ∧ n ≤ k ∧ (p = none → k = 0) ∧
  ∀ a, p = some a → (0 < n → a.spot = none) ∧ (0 < n → S a.block) ∧
    ∀ i (hi : i < xs.length), ∃ cs, CellsAt w a.block (a.off + i * Enc.sz α) cs ∧ Enc.rd S w cs xs[i]

theorem RdSl.keep {α : Type} [Enc α] {S S' : Nat → Prop} {w w' : World} {p : Option Addr} {n k : Nat} {xs : List α} (hk : Keep S S' w w') (h : RdSl S w p n k xs) : RdSl S' w' p n k xs := by
  obtain ⟨h1, h2, h3, h4⟩ := h
  refine ⟨h1, h2, h3, fun a ha => ?_⟩
  obtain ⟨h5, h6, h7⟩ := h4 a ha
  refine ⟨h5, fun hn => (hk _ (h6 hn)).1, fun i hi => ?_⟩
  obtain ⟨cs, hc, hr⟩ := h7 i hi
  exact ⟨cs, hc.keep hk (h6 (by omega)), Enc.mono hk hr⟩

instance leafList {α : Type} [Enc α] : Leaf (List α) where
  rd1 := fun S w v xs => ∃ p n k, v = .slice p n k ∧ RdSl S w p n k xs
  mono := fun hk ⟨p, n, k, h1, h2⟩ => ⟨p, n, k, h1, h2.keep hk⟩
  one := fun ⟨p, n, k, h1, _⟩ => by rw [h1]; rfl

/-- an assertion on shared memory -/
structure Asrt where
  p : (Nat → Prop) → World → Prop
  mono : ∀ {S S' : Nat → Prop} {w w' : World}, Keep S S' w w' → p S w → p S' w'

/-- a slice value reads as xs -/
def SlA {α : Type} [Enc α] (p : Option Addr) (n k : Nat) (xs : List α) : Asrt := ⟨fun S w => RdSl S w p n k xs, fun hk h => h.keep hk⟩
/-- cells read as a datum -/
def RdA {α : Type} [Enc α] (cs : List Value) (d : α) : Asrt := ⟨fun S w => Enc.rd S w cs d, fun hk h => Enc.mono hk h⟩
/-- shared cells -/
def CeA (b o : Nat) (cs : List Value) : Asrt := ⟨fun S w => S b ∧ CellsAt w b o cs, fun hk h => ⟨(hk _ h.1).1, h.2.keep hk h.1⟩⟩

/-- the cells of an owned row read as xs -/
def RdL {α : Type} [Enc α] (S : Nat → Prop) (w : World) : List Value → List α → Prop
  | cs, [] => cs = []
  | cs, x :: xs => Enc.rd S w (cs.take (Enc.sz α)) x ∧ RdL S w (cs.drop (Enc.sz α)) xs
theorem RdL.keep {α : Type} [Enc α] {S S' : Nat → Prop} {w w' : World} (hk : Keep S S' w w') : ∀ {xs : List α} {cs : List Value}, RdL S w cs xs → RdL S' w' cs xs
  | [], _, h => h
  | _ :: _, _, h => ⟨Enc.mono hk h.1, RdL.keep hk h.2⟩
def RowA {α : Type} [Enc α] (cs : List Value) (xs : List α) : Asrt := ⟨fun S w => RdL S w cs xs, fun hk h => h.keep hk⟩

theorem RdL.length {α : Type} [Enc α] {S : Nat → Prop} {w : World} : ∀ {xs : List α} {cs : List Value}, RdL S w cs xs → cs.length = xs.length * Enc.sz α
  | [], _, h => by rw [show _ = [] from h]; simp
  | x :: xs, cs, h => by
    have h1 := Enc.len h.1
    have h2 := RdL.length h.2
    simp only [List.length_take, List.length_drop, List.length_cons] at *
    rw [Nat.succ_mul]
    omega
theorem RdL.one {α : Type} [Enc α] {S : Nat → Prop} {w : World} : ∀ {xs : List α} {cs : List Value}, RdL S w cs xs → ∀ c ∈ cs, c.oneCell' = true
  | [], _, h, c, hc => by rw [show _ = [] from h] at hc; cases hc
  | x :: xs, cs, h, c, hc => by
    rw [← List.take_append_drop (Enc.sz α) cs] at hc
    rcases List.mem_append.1 hc with hc | hc
    · exact Enc.one h.1 c hc
    · exact RdL.one h.2 c hc
theorem RdL.append {α : Type} [Enc α] {S : Nat → Prop} {w : World} : ∀ {xs : List α} {cs : List Value} {ys : List α} {ds : List Value}, RdL S w cs xs → RdL S w ds ys → RdL S w (cs ++ ds) (xs ++ ys)
  | [], cs, ys, ds, h, h' => by rw [show cs = [] from h]; exact h'
  | x :: xs, cs, ys, ds, h, h' => by
    have hl := Enc.len h.1
    have hle : Enc.sz α ≤ cs.length := by simp only [List.length_take] at hl; omega
    refine ⟨?_, ?_⟩
    · rw [List.take_append_of_le_length hle]; exact h.1
    · rw [List.drop_append_of_le_length hle]; exact RdL.append h.2 h'
theorem RdL.single {α : Type} [Enc α] {S : Nat → Prop} {w : World} {x : α} {cs : List Value} (h : Enc.rd S w cs x) : RdL S w cs [x] := by
  have hl := Enc.len h
  refine ⟨by rw [← hl, List.take_length]; exact h, ?_⟩
  show cs.drop _ = []
  rw [← hl]; simp
theorem RdL.get {α : Type} [Enc α] {S : Nat → Prop} {w : World} : ∀ {xs : List α} {cs : List Value}, RdL S w cs xs → ∀ i (hi : i < xs.length), Enc.rd S w ((cs.drop (i * Enc.sz α)).take (Enc.sz α)) xs[i]
  | x :: xs, cs, h, 0, _ => by simpa using h.1
  | x :: xs, cs, h, i + 1, hi => by
    have := RdL.get h.2 i (by simpa using hi)
    rw [List.drop_drop] at this
    simpa [Nat.succ_mul, Nat.add_comm] using this
theorem RdL.of_get {α : Type} [Enc α] {S : Nat → Prop} {w : World} : ∀ {xs : List α} {cs : List Value}, cs.length = xs.length * Enc.sz α → (∀ i (hi : i < xs.length), Enc.rd S w ((cs.drop (i * Enc.sz α)).take (Enc.sz α)) xs[i]) → RdL S w cs xs
  | [], cs, hl, _ => List.eq_nil_of_length_eq_zero (by simpa using hl)
  | x :: xs, cs, hl, h => by
    refine ⟨by have := h 0 (by simp); simp only [Nat.zero_mul, List.drop_zero] at this; exact this, RdL.of_get (by simp only [List.length_drop, List.length_cons] at *; rw [Nat.succ_mul] at hl; omega) (fun i hi => ?_)⟩
    have := h (i + 1) (by simpa using hi)
    rw [List.drop_drop]
    simpa [Nat.succ_mul, Nat.add_comm] using this

/-- what a call owns: a variable of its own (box), the array behind a slice of its own (row), a map of its own with plain elements by integer keys (mp) -/
inductive Res where
  | box (b : Nat) (cs : List Value) (T : TypeId)
  | row (p : Option Addr) (n k : Nat) (cs : List Value) (T : TypeId) (sz : Nat)
  | mp (b n : Nat) (P : Program) (kt et : TypeId) (z : Lit) (l : Int → Lit)
  | rowo (p : Option Addr) (n k : Nat) (cs : List Value) (T : TypeId) (sz : Nat)

def Res.own (w : World) : Res → Prop
  | .box b cs T => w.heap[b]? = some (.cells cs.toArray T (0, 0))
  | .row p n k cs T sz => w.ownsRow 0 T sz (.slice p n k) n cs
  | .mp b n P kt et z l => ∃ D : DataW Unit, w.ownsMap P kt (plainElem P et) b n D ∧ Maps.IsMap D ∧ ∀ x : Int, (Lit.int .i64 x).wf = true → D.atKey (.int .i64 x) (.lit z) = .lit (l x)
  | .rowo p n k cs T sz => cs.length = n * sz ∧ ((p = none ∧ n = 0 ∧ k = 0) ∨ ∃ b o cur, p = some ⟨b, o, none⟩ ∧ w.heap[b]? = some (.cells cur T (0, 0)) ∧ n ≤ k ∧ k ≤ maxLen ∧ o + k * sz ≤ cur.size ∧ (cur.toList.drop o).take (n * sz) = cs)
def Res.blk : Res → Option Nat
  | .box b _ _ => some b
  | .row p _ _ _ _ _ => p.map (·.block)
  | .mp b _ _ _ _ _ _ => some b
  | .rowo p _ _ _ _ _ => p.map (·.block)

structure Fx where
  w0 : World
  S0 : Nat → Prop
  X : List Nat

/-- the world: what is as it was at the call's entry, what the call owns (R), what is shared and no longer written (S), what is known of the shared memory (E) -/
structure Wd (fx : Fx) (S : Nat → Prop) (R : List Res) (E : List Asrt) (w : World) : Prop where
  os : w.os = fx.w0.os
  tape : w.tape = fx.w0.tape
  output : w.output = fx.w0.output
  drawn : fx.w0.drawn ≤ w.drawn
  size : fx.w0.heap.size ≤ w.heap.size
  keep : ∀ b, b < fx.w0.heap.size → b ∉ fx.X → w.heap[b]? = fx.w0.heap[b]?
  own : ∀ r, r ∈ R → r.own w
  at_ : ∀ r, r ∈ R → ∀ b, r.blk = some b → ¬ S b ∧ b < w.heap.size ∧ (b ∈ fx.X ∨ fx.w0.heap.size ≤ b)
  apart : R.Pairwise (fun r s => ∀ b, r.blk = some b → s.blk ≠ some b)
  s0 : ∀ b, fx.S0 b → S b
  sin : ∀ b, S b → b < w.heap.size ∧ (fx.S0 b ∨ fx.w0.heap.size ≤ b ∨ b ∈ fx.X)
  env : ∀ e, e ∈ E → e.p S w

section wd
variable {fx : Fx} {S : Nat → Prop} {R : List Res} {E : List Asrt} {w w' : World}

theorem Wd.envAt (h : Wd fx S R E w) (i : Nat) {e : Asrt} (he : E[i]? = some e) : e.p S w := h.env e (List.mem_of_getElem? he)
theorem Wd.ownAt (h : Wd fx S R E w) (i : Nat) {r : Res} (he : R[i]? = some r) : r.own w := h.own r (List.mem_of_getElem? he)
theorem Wd.ceAt (h : Wd fx S R E w) (i : Nat) {e : Asrt} (he : E[i]? = some e) : ∃ S, e.p S w := ⟨S, h.envAt i he⟩
/-- resources in another order, or fewer -/
def Sel (R : List Res) : List Nat → List Res → Prop
  | [], [] => True
  | i :: is, r :: rs => R[i]? = some r ∧ Sel R is rs
  | _, _ => False
theorem Sel.of {R : List Res} : ∀ {is : List Nat} {R' : List Res}, is.map (R[·]?) = R'.map some → Sel R is R'
  | [], [], _ => trivial
  | i :: is, r :: rs, h => by
    simp only [List.map_cons, List.cons.injEq] at h
    exact ⟨h.1, Sel.of h.2⟩
  | [], _ :: _, h => by simp at h
  | _ :: _, [], h => by simp at h
theorem Sel.mem {R : List Res} : ∀ {is : List Nat} {R' : List Res}, Sel R is R' → ∀ r, r ∈ R' → ∃ i, i ∈ is ∧ R[i]? = some r
  | [], [], _, r, h => by cases h
  | i :: is, x :: rs, h, r, hr => by
    rcases List.mem_cons.1 hr with rfl | hr
    · exact ⟨i, by simp, h.1⟩
    · obtain ⟨j, hj, he⟩ := Sel.mem h.2 r hr; exact ⟨j, by simp [hj], he⟩
  | [], _ :: _, h, _, _ => h.elim
  | _ :: _, [], h, _, hr => by cases hr
theorem Sel.apart {R : List Res} (hp : R.Pairwise (fun r s => ∀ b, r.blk = some b → s.blk ≠ some b)) : ∀ {is : List Nat} {R' : List Res}, is.Nodup → Sel R is R' → R'.Pairwise (fun r s => ∀ b, r.blk = some b → s.blk ≠ some b)
  | [], [], _, _ => List.Pairwise.nil
  | i :: is, x :: rs, hn, h => by
    rw [List.nodup_cons] at hn
    refine List.pairwise_cons.2 ⟨fun r hr b hb hb' => ?_, Sel.apart hp hn.2 h.2⟩
    obtain ⟨j, hj, he⟩ := Sel.mem h.2 r hr
    have hij : i ≠ j := fun e => hn.1 (e ▸ hj)
    obtain ⟨h1, h2⟩ := List.getElem?_eq_some_iff.1 h.1
    obtain ⟨h3, h4⟩ := List.getElem?_eq_some_iff.1 he
    have hq := List.pairwise_iff_getElem.1 hp
    rcases Nat.lt_or_gt_of_ne hij with hlt | hlt
    · exact hq i j h1 h3 hlt b (by rw [h2]; exact hb) (by rw [h4]; exact hb')
    · exact hq j i h3 h1 hlt b (by rw [h4]; exact hb') (by rw [h2]; exact hb)
  | [], _ :: _, _, h => h.elim
  | _ :: _, [], _, h => h.elim
theorem Wd.setR (h : Wd fx S R E w) (is : List Nat) (R' : List Res) (hn : is.Nodup) (hs : Sel R is R') : Wd fx S R' E w :=
  { h with
    own := fun r hr => by obtain ⟨i, _, he⟩ := hs.mem r hr; exact h.own r (List.mem_of_getElem? he)
    at_ := fun r hr => by obtain ⟨i, _, he⟩ := hs.mem r hr; exact h.at_ r (List.mem_of_getElem? he)
    apart := Sel.apart h.apart hn hs }
theorem Wd.addE (h : Wd fx S R E w) {e : Asrt} (he : e.p S w) : Wd fx S R (e :: E) w :=
  { h with env := fun x hx => by rcases List.mem_cons.1 hx with rfl | hx; exact he; exact h.env x hx }
def AllIn (E : List Asrt) : List Asrt → Prop
  | [] => True
  | e :: r => (∃ i : Nat, E[i]? = some e) ∧ AllIn E r
theorem AllIn.of {E : List Asrt} : ∀ (is : List Nat) {E' : List Asrt}, is.map (E[·]?) = E'.map some → AllIn E E'
  | [], [], _ => trivial
  | i :: is, r :: rs, h => by
    simp only [List.map_cons, List.cons.injEq] at h
    exact ⟨⟨i, h.1⟩, AllIn.of is h.2⟩
  | [], _ :: _, h => by simp at h
  | _ :: _, [], h => by simp at h
theorem AllIn.mem {E : List Asrt} : ∀ {E' : List Asrt}, AllIn E E' → ∀ e, e ∈ E' → e ∈ E
  | [], _, e, he => by cases he
  | x :: r, h, e, he => by
    rcases List.mem_cons.1 he with rfl | he
    · obtain ⟨⟨i, hi⟩, _⟩ := h; exact List.mem_of_getElem? hi
    · exact AllIn.mem h.2 e he
theorem Wd.setE (h : Wd fx S R E w) (E' : List Asrt) (he : AllIn E E') : Wd fx S R E' w :=
  { h with env := fun x hx => h.env x (he.mem x hx) }

theorem Wd.fit (h : Wd fx S R E w) (is : List Nat) {R' : List Res} {E' : List Asrt} (hn : is.Nodup) (hs : Sel R is R') (he : AllIn E E') : Wd fx S R' E' w := (h.setR is R' hn hs).setE E' he
/-- the world has gone on, but for one row -/
structure Grew (w w' : World) (row : Option Nat) : Prop extends w.grownBy w' row where
  drawn : w.drawn ≤ w'.drawn
/-- the world has gone on; only what r owns may have turned -/
theorem Wd.go (h : Wd fx S R E w) {row : Option Nat} (hg : Grew w w' row) (hrow : ∀ b, row = some b → ¬ S b ∧ (b ∈ fx.X ∨ fx.w0.heap.size ≤ b)) {R' : List Res}
    (hown : ∀ r, r ∈ R' → (r ∈ R ∧ (∀ b, r.blk = some b → row ≠ some b)) ∨ (r.own w' ∧ ∀ b, r.blk = some b → (row = some b ∨ w.heap.size ≤ b) ∧ b < w'.heap.size))
    (hap : R'.Pairwise (fun r s => ∀ b, r.blk = some b → s.blk ≠ some b)) : Wd fx S R' E w' := by
  have hkeep : Keep S S w w' := fun b hb => ⟨hb, hg.block b (h.sin b hb).1 (fun e => (hrow b e.symm).1 hb)⟩
  refine ⟨hg.os.trans h.os, hg.tape.trans h.tape, hg.output.trans h.output, Nat.le_trans h.drawn hg.drawn, Nat.le_trans h.size hg.size, fun b hb hx => ?_, fun r hr => ?_, fun r hr b hb => ?_, hap, h.s0, fun b hb => ⟨Nat.lt_of_lt_of_le (h.sin b hb).1 hg.size, (h.sin b hb).2⟩, fun e he => e.mono hkeep (h.env e he)⟩
  · rw [hg.block b (Nat.lt_of_lt_of_le hb h.size) (fun e => by rcases (hrow b e.symm).2 with h1 | h1; exact hx h1; omega)]
    exact h.keep b hb hx
  · rcases hown r hr with ⟨h1, h2⟩ | ⟨h1, _⟩
    · have hb : ∀ b, r.blk = some b → w'.heap[b]? = w.heap[b]? := fun b hb => hg.block b (h.at_ r h1 b hb).2.1 (fun e => h2 b hb e.symm)
      have ho := h.own r h1
      cases r with
      | box b cs T => show w'.heap[b]? = _; rw [hb b rfl]; exact ho
      | row p n k cs T sz =>
        obtain ⟨hl, ho⟩ := ho
        refine ⟨hl, ?_⟩
        rcases ho with ho | ⟨g, cap, cur, e1, e2, e3, e4⟩
        · exact .inl ho
        · refine .inr ⟨g, cap, cur, e1, e2, ?_, e4⟩
          rw [hb g (by simp only [Value.slice.injEq] at e1; simp [Res.blk, e1.1])]
          exact e3
      | mp b n P kt et z l =>
        obtain ⟨D, ⟨es, clock, h3, h4⟩, h5⟩ := ho
        exact ⟨D, ⟨es, clock, (hb b rfl).trans h3, h4⟩, h5⟩
      | rowo p n k cs T sz =>
        obtain ⟨hl, ho⟩ := ho
        refine ⟨hl, ?_⟩
        rcases ho with ho | ⟨g, o, cur, e1, e2, e3⟩
        · exact .inl ho
        · exact .inr ⟨g, o, cur, e1, (hb g (by simp [Res.blk, e1])).trans e2, e3⟩
    · exact h1
  · rcases hown r hr with ⟨h1, h2⟩ | ⟨h1, h2⟩
    · obtain ⟨h3, h4, h5⟩ := h.at_ r h1 b hb
      exact ⟨h3, Nat.lt_of_lt_of_le h4 hg.size, h5⟩
    · obtain ⟨h3, h4⟩ := h2 b hb
      rcases h3 with h3 | h3
      · exact ⟨(hrow b h3).1, h4, (hrow b h3).2⟩
      · refine ⟨fun hs => ?_, h4, .inr (Nat.le_trans h.size h3)⟩
        have := (h.sin b hs).1
        omega

theorem pw_set {R : List Res} {i : Nat} {r r' : Res} (hr : R[i]? = some r) (h : R.Pairwise (fun r s => ∀ b, r.blk = some b → s.blk ≠ some b)) (hs : ∀ s, s ∈ R → ∀ b, r'.blk = some b → r.blk = some b ∨ s.blk ≠ some b) :
    (R.set i r').Pairwise (fun r s => ∀ b, r.blk = some b → s.blk ≠ some b) := by
  rw [List.pairwise_iff_getElem] at h ⊢
  intro j k hj hk hjk b hb hb'
  simp only [List.length_set] at hj hk
  simp only [List.getElem_set] at hb hb'
  obtain ⟨hi, he⟩ := List.getElem?_eq_some_iff.1 hr
  split at hb
  · rename_i e
    subst e
    rw [if_neg (by omega)] at hb'
    rcases hs R[k] (List.getElem_mem _) b hb with h1 | h1
    · exact h i k hj hk hjk b (by rw [he]; exact h1) hb'
    · exact h1 hb'
  · split at hb'
    · rename_i e
      subst e
      rcases hs R[j] (List.getElem_mem _) b hb' with h1 | h1
      · exact h j i hj hk hjk b hb (by rw [he]; exact h1)
      · exact h1 hb
    · exact h j k hj hk hjk b hb hb'

/-- resource i has turned into r' -/
theorem Wd.put (h : Wd fx S R E w) (i : Nat) {r r' : Res} (hr : R[i]? = some r) (hg : Grew w w' r.blk) (ho : r'.own w') (hb : ∀ b, r'.blk = some b → (r.blk = some b ∨ w.heap.size ≤ b) ∧ b < w'.heap.size) : Wd fx S (R.set i r') E w' := by
  have hm := List.mem_of_getElem? hr
  refine h.go hg (fun b hb => ⟨(h.at_ r hm b hb).1, (h.at_ r hm b hb).2.2⟩) (fun s hs => ?_) (pw_set hr h.apart fun s hs b hb' => ?_)
  · obtain ⟨j, hj, e⟩ := List.mem_iff_getElem.1 hs
    simp only [List.length_set] at hj
    rw [List.getElem_set] at e
    split at e
    · subst e; exact .inr ⟨ho, hb⟩
    · subst e
      rename_i hne
      refine .inl ⟨List.getElem_mem _, fun b hb' e => ?_⟩
      obtain ⟨hi, he⟩ := List.getElem?_eq_some_iff.1 hr
      have := List.pairwise_iff_getElem.1 h.apart
      rcases Nat.lt_or_gt_of_ne hne with hlt | hlt
      · exact this i j hi hj hlt b (by rw [he]; exact e) hb'
      · exact this j i hj hi hlt b hb' (by rw [he]; exact e)
  · rcases (hb b hb').1 with h1 | h1
    · exact .inl h1
    · refine .inr fun e => ?_
      have := (h.at_ s hs b e).2.1
      omega

/-- a new resource -/
theorem Wd.new (h : Wd fx S R E w) {r : Res} (hg : Grew w w' none) (ho : r.own w') (hb : ∀ b, r.blk = some b → w.heap.size ≤ b ∧ b < w'.heap.size) : Wd fx S (r :: R) E w' := by
  refine h.go hg (fun b hb => by cases hb) (fun s hs => ?_) (List.pairwise_cons.2 ⟨fun s hs b hb' e => ?_, h.apart⟩)
  · rcases List.mem_cons.1 hs with rfl | hs
    · exact .inr ⟨ho, fun b hb' => ⟨.inr (hb b hb').1, (hb b hb').2⟩⟩
    · exact .inl ⟨hs, fun b _ => by simp⟩
  · have h1 := (hb b hb').1
    have h2 := (h.at_ s hs b e).2.1
    omega

/-- resource i said otherwise -/
theorem Wd.say (h : Wd fx S R E w) (i : Nat) {r r' : Res} (hr : R[i]? = some r) (ho : r'.own w) (hb : r'.blk = r.blk) : Wd fx S (R.set i r') E w :=
  h.put i hr ⟨⟨rfl, rfl, rfl, Nat.le_refl _, fun _ _ _ => rfl⟩, Nat.le_refl _⟩ ho fun b hb' => ⟨.inl (hb ▸ hb'), (h.at_ _ (List.mem_of_getElem? hr) b (hb ▸ hb')).2.1⟩
theorem Wd.dropR (h : Wd fx S R E w) (i : Nat) : Wd fx S (R.eraseIdx i) E w :=
  { h with own := fun r hr => h.own r (List.mem_of_mem_eraseIdx hr), at_ := fun r hr => h.at_ r (List.mem_of_mem_eraseIdx hr), apart := h.apart.sublist (List.eraseIdx_sublist _ _) }

theorem Wd.drew (h : Wd fx S R E w) : Wd fx S R E { w with drawn := w.drawn + 1 } :=
  h.go (w' := { w with drawn := w.drawn + 1 }) (row := none) ⟨⟨rfl, rfl, rfl, Nat.le_refl _, fun _ _ _ => rfl⟩, Nat.le_succ _⟩ (fun b hb => by cases hb) (fun r hr => .inl ⟨hr, fun b _ => by simp⟩) h.apart

/-- a resource of the call's own becomes shared -/
theorem Wd.share (h : Wd fx S R E w) (i : Nat) {r : Res} (hr : R[i]? = some r) (S' : Nat → Prop) (hS' : ∀ b, S' b ↔ (S b ∨ r.blk = some b)) : Wd fx S' (R.eraseIdx i) E w := by
  have hm := List.mem_of_getElem? hr
  have hk : Keep S S' w w := fun b hb => ⟨(hS' b).2 (.inl hb), rfl⟩
  refine { h.dropR i with at_ := fun s hs b hb => ?_, s0 := fun b hb => (hS' b).2 (.inl (h.s0 b hb)), sin := fun b hb => ?_, env := fun e he => e.mono hk (h.env e he) }
  · obtain ⟨h1, h2, h3⟩ := h.at_ s (List.mem_of_mem_eraseIdx hs) b hb
    refine ⟨fun hs' => ?_, h2, h3⟩
    rcases (hS' b).1 hs' with h4 | h4
    · exact h1 h4
    · obtain ⟨hi, he⟩ := List.getElem?_eq_some_iff.1 hr
      obtain ⟨j, hne, hj⟩ := List.mem_eraseIdx_iff_getElem?.1 hs
      obtain ⟨hj', he'⟩ := List.getElem?_eq_some_iff.1 hj
      have hp := List.pairwise_iff_getElem.1 h.apart
      rcases Nat.lt_or_gt_of_ne hne with hlt | hlt
      · exact hp j i hj' hi hlt b (by rw [he']; exact hb) (by rw [he]; exact h4)
      · exact hp i j hi hj' hlt b (by rw [he]; exact h4) (by rw [he']; exact hb)
  · rcases (hS' b).1 hb with h1 | h1
    · exact h.sin b h1
    · exact ⟨(h.at_ r hm b h1).2.1, (h.at_ r hm b h1).2.2.elim (fun q => .inr (.inr q)) (fun q => .inr (.inl q))⟩
end wd

end Go.Proofs.YthdimlepjpnncaaGreat.Wk

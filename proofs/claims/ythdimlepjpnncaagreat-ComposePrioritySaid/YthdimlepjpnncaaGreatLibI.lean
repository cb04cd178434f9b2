/- A library for walks over any program: parts of slices, equality of structs. No statement of the seat is used here. -/
import Derived.Test.YthdimlepjpnncaaGreatLibF
namespace Go.Proofs.YthdimlepjpnncaaGreat.Wk
open Go Go.RowKit Go.Proofs.YthdimlepjpnncaaGreat.Sh
set_option linter.unusedSimpArgs false
set_option linter.unusedVariables false

/-- what a slice of a slice is -/
def SubOf (p : Option Addr) (n k : Nat) (l h' : Int) (sz : Nat) (p' : Option Addr) (n' k' : Nat) : Prop :=
  0 ≤ l ∧ l ≤ h' ∧ h' ≤ k ∧ n' = h'.toNat - l.toNat ∧ k' = k - l.toNat ∧ p' = if k = l.toNat then p else p.map (·.add (l.toNat * sz))

theorem addr_add' {a : Addr} (h : a.spot = none) (i : Nat) : a.add i = ⟨a.block, a.off + i, none⟩ := by
  obtain ⟨b, o, s⟩ := a
  simp only at h
  subst h
  exact addr_add _ _ _

theorem sub_env {α : Type} [Enc α] {S : Nat → Prop} {w : World} {p : Option Addr} {k : Nat} {xs ys : List α} {l h' : Int} (h : (SlA p xs.length k xs).p S w) (hs : subM xs l h' = some ys) :
    ∃ p' k', (SlA p' ys.length k' ys).p S w ∧ SubOf p xs.length k l h' (Enc.sz α) p' ys.length k' := by
  obtain ⟨⟨h0, h1, h2⟩, rfl⟩ := subM_t hs
  obtain ⟨e1, e2, e3, e4⟩ := h
  have hlen : ((xs.take h'.toNat).drop l.toNat).length = h'.toNat - l.toNat := by simp; omega
  refine ⟨_, _, ?_, h0, h1, by omega, hlen, rfl, rfl⟩
  by_cases hk : k = l.toNat
  · rw [if_pos hk]
    have he : (xs.take h'.toNat).drop l.toNat = [] := List.eq_nil_of_length_eq_zero (by omega)
    rw [he]
    refine ⟨rfl, by simp, fun hp => by have := e3 hp; omega, fun a ha => ⟨fun hh => absurd hh (by simp), fun hh => absurd hh (by simp), fun i hi => absurd hi (by simp)⟩⟩
  · rw [if_neg hk]
    refine ⟨rfl, by omega, fun hp => ?_, fun a ha => ?_⟩
    · have : p = none := by cases p with | none => rfl | some _ => cases hp
      have := e3 this; omega
    · obtain ⟨a0, rfl, ha0⟩ := Option.map_eq_some_iff.1 ha
      obtain ⟨s0, s1, s2⟩ := e4 a0 rfl
      by_cases hx0 : xs.length = 0
      · have he : (xs.take h'.toNat).drop l.toNat = [] := List.eq_nil_of_length_eq_zero (by omega)
        exact ⟨fun hh => absurd hh (by omega), fun hh => absurd hh (by omega), fun i hi => absurd hi (by omega)⟩
      have s0 := s0 (by omega)
      rw [addr_add' s0] at ha0
      subst ha0
      refine ⟨fun _ => rfl, fun hh => s1 (by omega), fun i hi => ?_⟩
      obtain ⟨cs, c1, c2⟩ := s2 (l.toNat + i) (by omega)
      refine ⟨cs, ?_, ?_⟩
      · simp only
        rw [Nat.add_assoc, ← Nat.add_mul]; exact c1
      · rw [List.getElem_drop, List.getElem_take]; exact c2

theorem sub_nil {α : Type} {l h' : Int} {ys : List α} (sz : Nat) (h : subM ([] : List α) l h' = some ys) : ys = [] ∧ SubOf none ([] : List α).length 0 l h' sz none ([] : List α).length 0 := by
  obtain ⟨⟨h0, h1, h2⟩, rfl⟩ := subM_t h
  simp only [List.length_nil] at h2
  refine ⟨by simp, h0, h1, by omega, by simp; omega, by omega, ?_⟩
  split <;> rfl

theorem slnil {α : Type} [Enc α] {S : Nat → Prop} {w : World} {n k : Nat} {xs : List α} (h : (SlA none n k xs).p S w) : xs = [] := by
  obtain ⟨h1, h2, h3, _⟩ := h
  have := h3 rfl
  exact List.eq_nil_of_length_eq_zero (by omega)

section yields
variable {P : Program} {L : Slots} {w : World} {d : Option Tmp} {ty ty' : TypeId} {pos : String} {af : Array Edge} {g : Option (Nat × Bool)}

def Bnd (L : Slots) (q : Option Operand) (dflt v : Int) : Prop := match q with | none => v = dflt | some q => ∃ kk, ev L q = some (.int kk v)

theorem y_slc {t e : TypeId} {x : Operand} {lo hi : Option Operand} {p p' : Option Addr} {n k sz n' k' : Nat} {l h' : Int} (hu : UndT P t (.slice e)) (hsz : SzT P e sz) (hx : ev L x = some (.slice p n k))
    (hlo : Bnd L lo 0 l) (hhi : Bnd L hi n h') (hsub : SubOf p n k l h' sz p' n' k') :
    Yd P ⟨d, .slice t x lo hi none, ty, pos, af, g⟩ L w (.slice p' n' k') := fun a h => by
  obtain ⟨h0, h1, h2, rfl, rfl, rfl⟩ := hsub
  have hh : 0 ≤ h' ∧ h' ≤ k := by omega
  have hh2 : l ≤ (h'.toNat : Int) := by omega
  cases lo with
  | none =>
    simp only [Bnd] at hlo
    subst hlo
    cases hi with
    | none =>
      simp only [Bnd] at hhi
      subst hhi
      simp [execOp, h _ _ hx, Instr.sliceAt, Instr.slice, hu, hsz, Instr.sliceBounds]
    | some q =>
      obtain ⟨kk, hq⟩ := hhi
      simp [execOp, h _ _ hx, h _ _ hq, Instr.sliceAt, Instr.slice, hu, hsz, Instr.sliceBounds, Instr.sliceBound, asIntOf, hh.1, hh.2]
  | some r =>
    obtain ⟨kr, hr⟩ := hlo
    cases hi with
    | none =>
      simp only [Bnd] at hhi
      subst hhi
      simp [execOp, h _ _ hx, h _ _ hr, Instr.sliceAt, Instr.slice, hu, hsz, Instr.sliceBounds, Instr.sliceBound, asIntOf, h0, h1]
    | some q =>
      obtain ⟨kk, hq⟩ := hhi
      have hl2 : l ≤ max h' 0 := by omega
      simp [execOp, h _ _ hx, h _ _ hr, h _ _ hq, Instr.sliceAt, Instr.slice, hu, hsz, Instr.sliceBounds, Instr.sliceBound, asIntOf, h0, h1, hh.1, hh.2, hh2, hl2]

/-! ### equality -/
def EqV (P : Program) (d : Nat) (t : TypeId) (x y : Value) (b : Bool) : Prop := ∀ w, (Op.equalIn d t x y).run P w = .ok b w

theorem eqv_int {d : Nat} {t : TypeId} {k k' : IntKind} {m n : Int} (hu : UndT P t (.int k')) : EqV P (d + 1) t (.int k m) (.int k n) (m == n) := fun w => by
  simp [Op.equalIn, hu]
theorem eqv_bool {d : Nat} {t : TypeId} {m n : Bool} (hu : UndT P t .bool) : EqV P (d + 1) t (.bool m) (.bool n) (m == n) := fun w => by
  simp [Op.equalIn, hu]
theorem eqv_str {d : Nat} {t : TypeId} {m n : ByteArray} (hu : UndT P t .string) : EqV P (d + 1) t (.string m) (.string n) (m == n) := fun w => by
  simp [Op.equalIn, hu]

/-- the fields of two structs, one after the other -/
inductive EqF (P : Program) (d : Nat) (xs ys : Array Value) : List Field → Bool → Prop
  | nil : EqF P d xs ys [] true
  | cons1 {f : Field} {l : List Field} {x y : Value} {b c : Bool} (hn : (f.name == "_") = false) (ha : AggT P f.type false) (hx : xs[f.offset]? = some x) (hy : ys[f.offset]? = some y) (he : EqV P d f.type x y b) (hl : EqF P d xs ys l c) : EqF P d xs ys (f :: l) (b && c)
  | consA {f : Field} {l : List Field} {m : Nat} {x y : Array Value} {b c : Bool} (hn : (f.name == "_") = false) (ha : AggT P f.type true) (hm : SzT P f.type m) (hx : xs.extract f.offset (f.offset + m) = x) (hy : ys.extract f.offset (f.offset + m) = y) (he : EqV P d f.type (.agg x) (.agg y) b) (hl : EqF P d xs ys l c) : EqF P d xs ys (f :: l) (b && c)

theorem run_part1 {t : TypeId} {xs : Array Value} {o : Nat} {v : Value} (ha : AggT P t false) (hx : xs[o]? = some v) : (part t xs o).run P w = .ok v w := by
  simp [part, ha, hx]
theorem run_partA {t : TypeId} {xs x : Array Value} {o m : Nat} (ha : AggT P t true) (hm : SzT P t m) (hx : xs.extract o (o + m) = x) : (part t xs o).run P w = .ok (.agg x) w := by
  simp [part, ha, hm, hx]

theorem eqv_struct {d : Nat} {t : TypeId} {fs : Array Field} {xs ys : Array Value} {b : Bool} (hu : UndT P t (.struct fs)) (hst : P.stoodInHeld t = false) (h : EqF P d xs ys fs.toList b) : EqV P (d + 1) t (.agg xs) (.agg ys) b := fun w => by
  simp only [Op.equalIn]
  simp [hu, hst]
  rw [← Array.forIn_toList]
  generalize fs.toList = l at h
  induction h with
  | nil => simp
  | cons1 hn ha hx hy he hl ih =>
    have hn' := (beq_eq_false_iff_ne.1 hn)
    rename_i b c
    cases b <;> simp [hn', run_part1 ha hx, run_part1 ha hy, he w] <;> simpa using ih
  | consA hn ha hm hx hy he hl ih =>
    have hn' := (beq_eq_false_iff_ne.1 hn)
    rename_i b c
    cases b <;> simp [hn', run_partA ha hm hx, run_partA ha hm hy, he w] <;> simpa using ih

/-- the elements of two arrays, one after the other -/
inductive EqA (P : Program) (d : Nat) (e : TypeId) (n : Nat) (xs ys : Array Value) : List Nat → Bool → Prop
  | nil : EqA P d e n xs ys [] true
  | cons1 {i : Nat} {l : List Nat} {x y : Value} {b c : Bool} (ha : AggT P e false) (hx : xs[i * n]? = some x) (hy : ys[i * n]? = some y) (he : EqV P d e x y b) (hl : EqA P d e n xs ys l c) : EqA P d e n xs ys (i :: l) (b && c)
  | consA {i : Nat} {l : List Nat} {x y : Array Value} {b c : Bool} (ha : AggT P e true) (hm : SzT P e n) (hx : xs.extract (i * n) (i * n + n) = x) (hy : ys.extract (i * n) (i * n + n) = y) (he : EqV P d e (.agg x) (.agg y) b) (hl : EqA P d e n xs ys l c) : EqA P d e n xs ys (i :: l) (b && c)

theorem eqv_array {d : Nat} {t e : TypeId} {len n : Nat} {xs ys : Array Value} {b : Bool} (hu : UndT P t (.array len e)) (hn : SzT P e n) (h : EqA P d e n xs ys (List.range' 0 len) b) : EqV P (d + 1) t (.agg xs) (.agg ys) b := fun w => by
  simp only [Op.equalIn]
  simp [hu, hn]
  generalize List.range' 0 len = l at h
  induction h with
  | nil => simp
  | cons1 ha hx hy he hl ih =>
    rename_i b c
    cases b <;> simp [run_part1 ha hx, run_part1 ha hy, he w] <;> simpa using ih
  | consA ha hm hx hy he hl ih =>
    rename_i b c
    cases b <;> simp [run_partA ha hm hx, run_partA ha hm hy, he w] <;> simpa using ih

theorem eqv_nil {d : Nat} {t e : TypeId} {p : Option Addr} {n k : Nat} (hu : UndT P t (.slice e)) : EqV P (d + 1) t (.slice p n k) (.slice none 0 0) p.isNone := fun w => by
  cases p <;> simp [Op.equalIn, hu]
theorem y_eqlN {x y : Operand} {xt yt e : TypeId} {p : Option Addr} {n k : Nat} (hu : UndT P xt (.slice e)) (hx : ev L x = some (.slice p n k)) (hy : ev L y = some (.slice none 0 0)) :
    Yd P ⟨d, .binOp .eql xt x y yt, ty, pos, af, g⟩ L w (.bool p.isNone) := fun a h => by
  have he : (Op.equal xt (.slice p n k) (.slice none 0 0)).run P w = .ok p.isNone w := eqv_nil (d := 9999) hu w
  simp [execOp, eqGuard, binOp, h _ _ hx, h _ _ hy, he]
theorem y_neqN {x y : Operand} {xt yt e : TypeId} {p : Option Addr} {n k : Nat} (hu : UndT P xt (.slice e)) (hx : ev L x = some (.slice p n k)) (hy : ev L y = some (.slice none 0 0)) :
    Yd P ⟨d, .binOp .neq xt x y yt, ty, pos, af, g⟩ L w (.bool (!p.isNone)) := fun a h => by
  have he : (Op.equal xt (.slice p n k) (.slice none 0 0)).run P w = .ok p.isNone w := eqv_nil (d := 9999) hu w
  simp [execOp, eqGuard, binOp, h _ _ hx, h _ _ hy, he]

theorem y_eqlA {x y : Operand} {xt yt : TypeId} {xs ys : Array Value} {b : Bool} (hg : P.eqGuardType P.depth xt = false) (hx : ev L x = some (.agg xs)) (hy : ev L y = some (.agg ys)) (he : EqV P 10000 xt (.agg xs) (.agg ys) b) :
    Yd P ⟨d, .binOp .eql xt x y yt, ty, pos, af, g⟩ L w (.bool b) := fun a h => by
  have := he w
  simp [execOp, eqGuard, binOp, h _ _ hx, h _ _ hy, hg, Op.equal, Op.maxDepth, this]
theorem y_neqA {x y : Operand} {xt yt : TypeId} {xs ys : Array Value} {b : Bool} (hg : P.eqGuardType P.depth xt = false) (hx : ev L x = some (.agg xs)) (hy : ev L y = some (.agg ys)) (he : EqV P 10000 xt (.agg xs) (.agg ys) b) :
    Yd P ⟨d, .binOp .neq xt x y yt, ty, pos, af, g⟩ L w (.bool (!b)) := fun a h => by
  have := he w
  simp [execOp, eqGuard, binOp, h _ _ hx, h _ _ hy, hg, Op.equal, Op.maxDepth, this]
end yields
end Go.Proofs.YthdimlepjpnncaaGreat.Wk

/- A library for walks over any program: what a frame's slots hold, and what one operation yields. No statement of the seat is used here. -/
import Derived.Below
import Derived.Laws.MakeOwn
import Derived.Laws.CopyRow
import Derived.Orders
namespace Go.Proofs.YtmlekplbmfengaaGreat.Wk
open Go Go.RowKit
set_option linter.unusedSimpArgs false
set_option linter.unusedVariables false
abbrev Slots := List (Nat × Value)
def lk (t : Nat) : Slots → Option Value
  | [] => none
  | (k, v) :: r => bif Nat.beq k t then some v else lk t r
def ev (L : Slots) : Operand → Option Value
  | .tmp t => lk t L
  | .const v => some v
  | .global g => some (.pointer (some ⟨g, 0, none⟩))
  | .func f => some (.func (.func f) #[] #[])
/-- the frame's slots: those of L hold what L says -/
structure Sl (N : Nat) (L : Slots) (a : Act) : Prop where
  size : a.tmps.size = N
  defers : a.defers = []
  slot : ∀ t v, lk t L = some v → a.tmps[t]? = some v
theorem Sl.ev {N : Nat} {L : Slots} {a : Act} (h : Sl N L a) {x : Operand} {v : Value} (hx : ev L x = some v) : a.eval x = v := by
  cases x with
  | tmp t =>
    have := h.slot t v hx
    simp [Act.eval, this]
  | const u => exact Option.some.inj hx
  | global g => exact Option.some.inj hx
  | func f => exact Option.some.inj hx
theorem Sl.put {N : Nat} {L : Slots} {a : Act} (h : Sl N L a) (d : Nat) (v : Value) (hd : Nat.ble (d + 1) N = true) : Sl N ((d, v) :: L) (a.put (some d) v) := by
  have hd' : d < N := Nat.le_of_ble_eq_true hd
  refine ⟨by simp [Act.put, h.size], by simp [Act.put, h.defers], fun t u hu => ?_⟩
  simp only [lk] at hu
  cases hb : Nat.beq d t with
  | true =>
    rw [hb] at hu
    have := Nat.eq_of_beq_eq_true hb
    subst this
    simp at hu
    subst hu
    simp [Act.put, h.size, hd']
  | false =>
    rw [hb] at hu
    have hne : d ≠ t := Nat.ne_of_beq_eq_false hb
    simp only [cond_false] at hu
    simp [Act.put, hne, h.slot t u hu]
/-- each row of a list of slots -/
def Each (p : Nat → Value → Prop) : Slots → Prop
  | [] => True
  | (k, v) :: r => p k v ∧ Each p r
/-- fewer slots, or in another order -/
theorem Each.of {L : Slots} : ∀ {L' : Slots}, L'.map (fun x => lk x.1 L) = L'.map (fun x => some x.2) → Each (fun t v => lk t L = some v) L'
  | [], _ => trivial
  | x :: r, h => by
    simp only [List.map_cons, List.cons.injEq] at h
    exact ⟨h.1, Each.of h.2⟩
theorem Sl.weaken {N : Nat} {L : Slots} {a : Act} (h : Sl N L a) (L' : Slots) (hl : Each (fun t v => lk t L = some v) L') : Sl N L' a := by
  refine ⟨h.size, h.defers, fun t v hv => ?_⟩
  induction L' with
  | nil => simp [lk] at hv
  | cons p r ih =>
    obtain ⟨k, u⟩ := p
    simp only [Each] at hl
    simp only [lk] at hv
    cases hb : Nat.beq k t with
    | true =>
      rw [hb] at hv
      have := Nat.eq_of_beq_eq_true hb
      subst this
      simp at hv
      subst hv
      exact h.slot _ _ hl.1
    | false =>
      rw [hb] at hv
      exact ih hl.2 (by simpa using hv)
/-- the entry of a function -/
theorem Sl.enter (args : Array Value) (N : Nat) (L : Slots) (hN : Nat.ble args.size N = true) (hl : Each (fun t v => args[t]? = some v) L) : Sl N L { tmps := args ++ Array.replicate (N - args.size) undef, defers := [] } := by
  have hN' := Nat.le_of_ble_eq_true hN
  refine ⟨by simp; omega, rfl, fun t v hv => ?_⟩
  induction L with
  | nil => simp [lk] at hv
  | cons p r ih =>
    obtain ⟨k, u⟩ := p
    simp only [Each] at hl
    simp only [lk] at hv
    cases hb : Nat.beq k t with
    | true =>
      rw [hb] at hv
      have := Nat.eq_of_beq_eq_true hb
      subst this
      simp at hv
      subst hv
      have h1 := hl.1
      have : k < args.size := (Array.getElem?_eq_some_iff.1 h1).1
      simp only [Array.getElem?_append, this, if_true, h1]
    | false =>
      rw [hb] at hv
      exact ih hl.2 (by simpa using hv)
/-- In world w the operation yields v, whatever the frame, if its slots hold what L says. -/
def Yd (P : Program) (o : Oper) (L : Slots) (w : World) (v : Value) : Prop :=
  ∀ a : Act, (∀ x u, ev L x = some u → a.eval x = u) → (execOp a.eval o).run P w = .ok (.value v) w
abbrev UndT (P : Program) (t : TypeId) (d : TypeDesc) : Prop := ∀ w, (underlying t).run P w = .ok d w
abbrev SzT (P : Program) (t : TypeId) (n : Nat) : Prop := ∀ w, (sizeOf t).run P w = .ok n w
abbrev AggT (P : Program) (t : TypeId) (b : Bool) : Prop := ∀ w, (isAgg t).run P w = .ok b w
abbrev ZeroT (P : Program) (t : TypeId) (v : Value) : Prop := ∀ w, (zeroValue t).run P w = .ok v w
section yields
variable {P : Program} {L : Slots} {w : World} {d : Option Tmp} {ty ty' : TypeId} {pos : String} {af : Array Edge} {g : Option (Nat × Bool)}
theorem y_move {x : Operand} {v : Value} (hx : ev L x = some v) : Yd P ⟨d, .move x, ty, pos, af, g⟩ L w v := fun a h => by
  simp [execOp, h _ _ hx]
theorem y_assign {x : Operand} {v : Value} (hx : ev L x = some v) : Yd P ⟨d, .assign x, ty, pos, af, g⟩ L w v := fun a h => by
  simp [execOp, h _ _ hx]
theorem y_pickT {c x y : Operand} {v : Value} (hc : ev L c = some (.bool true)) (hx : ev L x = some v) : Yd P ⟨d, .pick c x y, ty, pos, af, g⟩ L w v := fun a h => by
  simp [execOp, h _ _ hc, h _ _ hx, asBool]
theorem y_pickF {c x y : Operand} {v : Value} (hc : ev L c = some (.bool false)) (hy : ev L y = some v) : Yd P ⟨d, .pick c x y, ty, pos, af, g⟩ L w v := fun a h => by
  simp [execOp, h _ _ hc, h _ _ hy, asBool]
theorem y_nilCheck {x : Operand} {p : Addr} (hx : ev L x = some (.pointer (some p))) : Yd P ⟨d, .nilCheck x, ty, pos, af, g⟩ L w (.pointer (some p)) := fun a h => by
  simp [execOp, h _ _ hx]
theorem run_equalInB (dd : Nat) {t : TypeId} {b c : Bool} (hu : UndT P t .bool) : (Op.equalIn (dd + 1) t (.bool b) (.bool c)).run P w = .ok (b == c) w := by
  simp [Op.equalIn, hu]
theorem run_equalB {t : TypeId} {b c : Bool} (hu : UndT P t .bool) : (Op.equal t (.bool b) (.bool c)).run P w = .ok (b == c) w := run_equalInB 9999 hu
section bin
variable {x y : Operand} {k : IntKind} {m n : Int} {xt yt : TypeId}
theorem y_add (hx : ev L x = some (.int k m)) (hy : ev L y = some (.int k n)) : Yd P ⟨d, .binOp .add xt x y yt, ty, pos, af, g⟩ L w (.int k (k.wrap (m + n))) := fun a h => by
  simp [execOp, eqGuard, binOp, h _ _ hx, h _ _ hy, Op.intArith]
theorem y_sub (hx : ev L x = some (.int k m)) (hy : ev L y = some (.int k n)) : Yd P ⟨d, .binOp .sub xt x y yt, ty, pos, af, g⟩ L w (.int k (k.wrap (m - n))) := fun a h => by
  simp [execOp, eqGuard, binOp, h _ _ hx, h _ _ hy, Op.intArith]
theorem y_mul (hx : ev L x = some (.int k m)) (hy : ev L y = some (.int k n)) : Yd P ⟨d, .binOp .mul xt x y yt, ty, pos, af, g⟩ L w (.int k (k.wrap (m * n))) := fun a h => by
  simp [execOp, eqGuard, binOp, h _ _ hx, h _ _ hy, Op.intArith]
theorem y_quo (hx : ev L x = some (.int k m)) (hy : ev L y = some (.int k n)) (hn : n ≠ 0) : Yd P ⟨d, .binOp .quo xt x y yt, ty, pos, af, g⟩ L w (.int k (k.wrap (m.tdiv n))) := fun a h => by
  simp [execOp, eqGuard, binOp, h _ _ hx, h _ _ hy, Op.intDiv, hn]
theorem y_rem (hx : ev L x = some (.int k m)) (hy : ev L y = some (.int k n)) (hn : n ≠ 0) : Yd P ⟨d, .binOp .rem xt x y yt, ty, pos, af, g⟩ L w (.int k (m.tmod n)) := fun a h => by
  simp [execOp, eqGuard, binOp, h _ _ hx, h _ _ hy, Op.intDiv, hn]
theorem y_lss (hx : ev L x = some (.int k m)) (hy : ev L y = some (.int k n)) : Yd P ⟨d, .binOp .lss xt x y yt, ty, pos, af, g⟩ L w (.bool (decide (m < n))) := fun a h => by
  simp [execOp, eqGuard, binOp, h _ _ hx, h _ _ hy, Op.intCmp]
theorem y_leq (hx : ev L x = some (.int k m)) (hy : ev L y = some (.int k n)) : Yd P ⟨d, .binOp .leq xt x y yt, ty, pos, af, g⟩ L w (.bool (decide (m ≤ n))) := fun a h => by
  simp [execOp, eqGuard, binOp, h _ _ hx, h _ _ hy, Op.intCmp]
theorem y_gtr (hx : ev L x = some (.int k m)) (hy : ev L y = some (.int k n)) : Yd P ⟨d, .binOp .gtr xt x y yt, ty, pos, af, g⟩ L w (.bool (decide (n < m))) := fun a h => by
  simp [execOp, eqGuard, binOp, h _ _ hx, h _ _ hy, Op.intCmp]
theorem y_geq (hx : ev L x = some (.int k m)) (hy : ev L y = some (.int k n)) : Yd P ⟨d, .binOp .geq xt x y yt, ty, pos, af, g⟩ L w (.bool (decide (n ≤ m))) := fun a h => by
  simp [execOp, eqGuard, binOp, h _ _ hx, h _ _ hy, Op.intCmp]
theorem y_eql (hx : ev L x = some (.int k m)) (hy : ev L y = some (.int k n)) : Yd P ⟨d, .binOp .eql xt x y yt, ty, pos, af, g⟩ L w (.bool (m == n)) := fun a h => by
  simp [execOp, eqGuard, binOp, h _ _ hx, h _ _ hy, Op.intCmp]
theorem y_neq (hx : ev L x = some (.int k m)) (hy : ev L y = some (.int k n)) : Yd P ⟨d, .binOp .neq xt x y yt, ty, pos, af, g⟩ L w (.bool (m != n)) := fun a h => by
  simp [execOp, eqGuard, binOp, h _ _ hx, h _ _ hy, Op.intCmp]
theorem y_neqB {b c : Bool} (hu : UndT P xt .bool) (hx : ev L x = some (.bool b)) (hy : ev L y = some (.bool c)) : Yd P ⟨d, .binOp .neq xt x y yt, ty, pos, af, g⟩ L w (.bool (!(b == c))) := fun a h => by
  simp [execOp, eqGuard, binOp, h _ _ hx, h _ _ hy, run_equalB hu]
theorem y_eqlS {b c : ByteArray} (hx : ev L x = some (.string b)) (hy : ev L y = some (.string c)) : Yd P ⟨d, .binOp .eql xt x y yt, ty, pos, af, g⟩ L w (.bool (b.toList == c.toList)) := fun a h => by
  simp [execOp, eqGuard, binOp, h _ _ hx, h _ _ hy, Op.stringOp]
theorem y_neqS {b c : ByteArray} (hx : ev L x = some (.string b)) (hy : ev L y = some (.string c)) : Yd P ⟨d, .binOp .neq xt x y yt, ty, pos, af, g⟩ L w (.bool (!(b.toList == c.toList))) := fun a h => by
  simp [execOp, eqGuard, binOp, h _ _ hx, h _ _ hy, Op.stringOp]
theorem y_lssS {b c : ByteArray} (hx : ev L x = some (.string b)) (hy : ev L y = some (.string c)) : Yd P ⟨d, .binOp .lss xt x y yt, ty, pos, af, g⟩ L w (.bool (Op.bytesLess b.toList c.toList)) := fun a h => by
  simp [execOp, eqGuard, binOp, h _ _ hx, h _ _ hy, Op.stringOp]
end bin
theorem y_neg {x : Operand} {k : IntKind} {n : Int} (hx : ev L x = some (.int k n)) : Yd P ⟨d, .unOp .neg ty' x, ty, pos, af, g⟩ L w (.int k (k.wrap (0 - n))) := fun a h => by
  simp [execOp, h _ _ hx, Op.unary, Op.intArith]
theorem y_not {x : Operand} {b : Bool} (hx : ev L x = some (.bool b)) : Yd P ⟨d, .unOp .not ty' x, ty, pos, af, g⟩ L w (.bool (!b)) := fun a h => by
  simp [execOp, h _ _ hx, Op.unary]
theorem y_extract {x : Operand} {vs : Array Value} {i : Nat} {v : Value} (hx : ev L x = some (.tuple vs)) (hv : vs[i]? = some v) : Yd P ⟨d, .extract x i, ty, pos, af, g⟩ L w v := fun a h => by
  simp only [execOp, h _ _ hx, Instr.extract, hv]
  simp
theorem y_makeFunc {fn : FuncId} {first cap : Array Operand} {vs us : Array Value} (h1 : first.toList.map (ev L) = vs.toList.map some) (h2 : cap.toList.map (ev L) = us.toList.map some) : Yd P ⟨d, .makeFunc (.func fn) first cap, ty, pos, af, g⟩ L w (.func (.func fn) vs us) := fun a h => by
  have key : ∀ (l : List Operand) (r : List Value), l.map (ev L) = r.map some → l.map a.eval = r := by
    intro l
    induction l with
    | nil => intro r hr; cases r <;> simp_all
    | cons x l ih =>
      intro r hr
      cases r with
      | nil => simp at hr
      | cons v r =>
        simp only [List.map_cons, List.cons.injEq] at hr
        simp [h _ _ hr.1, ih r hr.2]
  have e1 : first.map a.eval = vs := by
    apply Array.ext'; simpa using key _ _ h1
  have e2 : cap.map a.eval = us := by
    apply Array.ext'; simpa using key _ _ h2
  simp [execOp, Instr.makeFunc, e1, e2]
theorem y_len {x : Operand} {t e : TypeId} {p : Option Addr} {n k : Nat} (hu : UndT P t (.slice e)) (hx : ev L x = some (.slice p n k)) :
    Yd P ⟨d, .call { callee := .builtin .len, args := #[x], argTypes := #[t] }, ty, pos, af, g⟩ L w (.int .i64 n) := fun a h => by
  simp [execOp, resolve, invoke, builtin, Builtin.len_, h _ _ hx, hu, goInt]
theorem y_lenS {x : Operand} {t : TypeId} {s : ByteArray} (hu : UndT P t .string) (hx : ev L x = some (.string s)) :
    Yd P ⟨d, .call { callee := .builtin .len, args := #[x], argTypes := #[t] }, ty, pos, af, g⟩ L w (.int .i64 s.size) := fun a h => by
  simp [execOp, resolve, invoke, builtin, Builtin.len_, h _ _ hx, hu, goInt]
theorem y_max {x y : Operand} {k : IntKind} {m n : Int} {at_ : Array TypeId} (hx : ev L x = some (.int k m)) (hy : ev L y = some (.int k n)) :
    Yd P ⟨d, .call { callee := .builtin .max, args := #[x, y], argTypes := at_ }, ty, pos, af, g⟩ L w (.int k (max m n)) := fun a h => by
  simp [execOp, resolve, invoke, builtin, Builtin.max_, h _ _ hx, h _ _ hy, Builtin.max2]
  by_cases hmn : m < n
  · rw [if_pos hmn]; omega
  · rw [if_neg hmn]; omega
theorem y_min {x y : Operand} {k : IntKind} {m n : Int} {at_ : Array TypeId} (hx : ev L x = some (.int k m)) (hy : ev L y = some (.int k n)) :
    Yd P ⟨d, .call { callee := .builtin .min, args := #[x, y], argTypes := at_ }, ty, pos, af, g⟩ L w (.int k (min m n)) := fun a h => by
  simp [execOp, resolve, invoke, builtin, Builtin.min_, h _ _ hx, h _ _ hy, Builtin.min2]
  by_cases hmn : n < m
  · rw [if_pos hmn]; omega
  · rw [if_neg hmn]; omega
theorem addr_add (b o n : Nat) : (⟨b, o, none⟩ : Addr).add n = ⟨b, o + n, none⟩ := by
  unfold Addr.add; split <;> simp_all
theorem y_fieldAddr {s : TypeId} {x : Operand} {i : Nat} {fs : Array Field} {f : Field} {m b o o' : Nat} (hu : UndT P s (.struct fs)) (hf : fs[i]? = some f) (hsz : SzT P f.type m) (hm : Nat.beq m 0 = false)
    (hx : ev L x = some (.pointer (some ⟨b, o, none⟩))) (ho : o + f.offset = o') : Yd P ⟨d, .fieldAddr s x i, ty, pos, af, g⟩ L w (.pointer (some ⟨b, o', none⟩)) := fun a h => by
  have hm' : m ≠ 0 := Nat.ne_of_beq_eq_false hm
  subst ho
  simp [execOp, h _ _ hx, Instr.fieldAt, hu, hf, Instr.sureAddr, fieldPlace, hsz, hm', addr_add]
theorem run_loadVar1 {t : TypeId} {a : Addr} {v : Value} (ha : AggT P t false) (hc : w.cell? a = some v) : (loadVar t a).run P w = .ok v w := by
  simp [loadVar, ha, hc]
theorem run_loadVarA {t : TypeId} {b o m : Nat} {cs : List Value} (ha : AggT P t true) (hsz : SzT P t m) (hm : cs.length = m) (hc : ∀ j v, cs[j]? = some v → w.cell? ⟨b, o + j, none⟩ = some v) :
    (loadVar t ⟨b, o, none⟩).run P w = .ok (.agg cs.toArray) w := by
  have := run_loadCells_list (P := P) w ⟨b, o, none⟩ cs (fun j v hv => by rw [addr_add]; exact hc j v hv)
  rw [hm] at this
  simp [loadVar, ha, hsz, this]
theorem y_load1 {t : TypeId} {x : Operand} {p : Addr} {v : Value} (ha : AggT P t false) (hx : ev L x = some (.pointer (some p))) (hc : w.cell? p = some v) : Yd P ⟨d, .load t x, ty, pos, af, g⟩ L w v := fun a h => by
  simp [execOp, h _ _ hx, Instr.loadAt, Instr.sureAddr, run_loadVar1 ha hc]
theorem y_loadA {t : TypeId} {x : Operand} {b o m : Nat} {cs : List Value} (ha : AggT P t true) (hsz : SzT P t m) (hx : ev L x = some (.pointer (some ⟨b, o, none⟩))) (hm : Nat.beq cs.length m = true)
    (hc : ∀ j v, cs[j]? = some v → w.cell? ⟨b, o + j, none⟩ = some v) : Yd P ⟨d, .load t x, ty, pos, af, g⟩ L w (.agg cs.toArray) := fun a h => by
  simp [execOp, h _ _ hx, Instr.loadAt, Instr.sureAddr, run_loadVarA ha hsz (Nat.eq_of_beq_eq_true hm) hc]
theorem y_indexAddr {t e : TypeId} {x i : Operand} {b o n k sz : Nat} {kk : IntKind} {j : Int} (hu : UndT P t (.slice e)) (hsz : SzT P e sz) (hx : ev L x = some (.slice (some ⟨b, o, none⟩) n k)) (hi : ev L i = some (.int kk j)) (h0 : 0 ≤ j) (hn : j < n) :
    Yd P ⟨d, .indexAddr t x i, ty, pos, af, g⟩ L w (.pointer (some ⟨b, o + j.toNat * sz, none⟩)) := fun a h => by
  simp [execOp, h _ _ hx, h _ _ hi, Instr.indexAt, asIntOf, hu, hsz, h0, hn, addr_add]
theorem y_indexAddrA {t e : TypeId} {x i : Operand} {b o n sz : Nat} {kk : IntKind} {j : Int} (hu : UndT P t (.array n e)) (hsz : SzT P e sz) (hx : ev L x = some (.pointer (some ⟨b, o, none⟩))) (hi : ev L i = some (.int kk j)) (h0 : 0 ≤ j) (hn : j < n) :
    Yd P ⟨d, .indexAddr t x i, ty, pos, af, g⟩ L w (.pointer (some ⟨b, o + j.toNat * sz, none⟩)) := fun a h => by
  simp [execOp, h _ _ hx, h _ _ hi, Instr.indexAt, asIntOf, hu, hsz, h0, hn, addr_add, Instr.sureAddr]
theorem y_indexS {t : TypeId} {x i : Operand} {s : ByteArray} {c : UInt8} {kk : IntKind} {j : Int} (hu : UndT P t .string) (hx : ev L x = some (.string s)) (hi : ev L i = some (.int kk j)) (h0 : 0 ≤ j) (hc : s[j.toNat]? = some c) :
    Yd P ⟨d, .index t x i, ty, pos, af, g⟩ L w (.int .u8 c.toNat) := fun a h => by
  simp [execOp, h _ _ hx, h _ _ hi, Instr.index, asIntOf, hu, h0, hc]
end yields
end Go.Proofs.YtmlekplbmfengaaGreat.Wk

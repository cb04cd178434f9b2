/- A library for walks over any program: one step of the walk for each kind of operation. No statement of the seat is used here. -/
import Derived.Test.YthdimlepjpnncaaGreatLibB
namespace Go.Proofs.YthdimlepjpnncaaGreat.Wk
open Go Go.RowKit Go.Proofs.YthdimlepjpnncaaGreat.Sh
set_option linter.unusedSimpArgs false
set_option linter.unusedVariables false

section control
variable {K : Act → World → Prop} {Q : Exit → Act → World → Prop} {a : Act} {w : World} {i j : Nat}
theorem then_normal (h : K a w) : Exit.then K Q .normal a w := h
theorem then_exit (h : Q (.exit j) a w) : Exit.then K Q (.exit j) a w := h
theorem then_ret (h : Q .ret a w) : Exit.then K Q .ret a w := h
theorem blk_normal (h : Q .normal a w) : Exit.inBlock i Q .normal a w := h
theorem blk_ret (h : Q .ret a w) : Exit.inBlock i Q .ret a w := h
theorem blk_exit (h : Q .normal a w) : Exit.inBlock i Q (.exit i) a w := by simp only [Exit.inBlock, if_true]; exact h
theorem blk_other (hne : Nat.beq j i = false) (h : Q (.exit j) a w) : Exit.inBlock i Q (.exit j) a w := by
  simp only [Exit.inBlock, if_neg (Nat.ne_of_beq_eq_false hne)]; exact h
end control

section steps
variable {P : Program} {ops : Array Oper} {Q : Exit → Act → World → Prop} {rest : List Oper} {N : Nat} {L : Slots} {a : Act} {w : World} {fx : Fx} {S : Nat → Prop} {R : List Res} {E : List Asrt}
variable {ty : TypeId} {pos : String} {af : Array Edge} {g : Option (Nat × Bool)} {d : Nat}

/-- the guard lets the operation by -/
def Wanted (ops : Array Oper) (L : Slots) : Option (Nat × Bool) → Prop
  | none => True
  | some (j, b) => ∃ t, (ops[j]?).bind (·.dst) = some t ∧ lk t L = some (.bool b)
theorem Wanted.out {o : Oper} (hs : Sl N L a) (h : Wanted ops L o.guard) : Region.wanted o (yielded ops a.tmps) = true := by
  unfold Region.wanted
  unfold Wanted at h
  cases hg : o.guard with
  | none => rfl
  | some p =>
    rw [hg] at h
    obtain ⟨t, h1, h2⟩ := h
    simp only [yielded, h1, Option.bind_some, hs.slot t _ h2]
    simp

theorem st_val {o : Oper} {v : Value} (hs : Sl N L a) (hy : Yd P o L w v) (hw : Wanted ops L o.guard) (hd : o.dst = some d) (hN : Nat.ble (d + 1) N = true)
    (k : ∀ a, Sl N ((d, v) :: L) a → wpList P ops Q rest a w) : wpList P ops Q (o :: rest) a w := by
  unfold wpList
  rw [if_pos (hw.out hs)]
  refine .inl ?_
  unfold Oper.wp
  rw [hy a (fun x u => hs.ev)]
  rw [Oper.upon_value, hd]
  exact k _ (hs.put d v hN)

/-- a guarded operation that does not run -/
theorem st_skip {o : Oper} {t j : Nat} {b : Bool} (hs : Sl N L a) (hg : o.guard = some (j, b)) (ht : (ops[j]?).bind (·.dst) = some t) (hb : lk t L = some (.bool (!b))) (hd : o.dst = some d) (hN : Nat.ble (d + 1) N = true)
    (k : ∀ a, Sl N ((d, undef) :: L) a → wpList P ops Q rest a w) : wpList P ops Q (o :: rest) a w := by
  unfold wpList
  have hw : Region.wanted o (yielded ops a.tmps) = false := by
    simp only [Region.wanted, hg, yielded, ht, Option.bind_some, hs.slot t _ hb]
    cases b <;> rfl
  rw [if_neg (by simp [hw]), hd]
  exact k _ (hs.put d undef hN)
/-- .. where the guard itself did not run -/
theorem st_skipU {o : Oper} {t j : Nat} {b : Bool} (hs : Sl N L a) (hg : o.guard = some (j, b)) (ht : (ops[j]?).bind (·.dst) = some t) (hb : lk t L = some undef) (hd : o.dst = some d) (hN : Nat.ble (d + 1) N = true)
    (k : ∀ a, Sl N ((d, undef) :: L) a → wpList P ops Q rest a w) : wpList P ops Q (o :: rest) a w := by
  unfold wpList
  have hw : Region.wanted o (yielded ops a.tmps) = false := by
    simp only [Region.wanted, hg, yielded, ht, Option.bind_some, hs.slot t _ hb, undef]
    cases b <;> rfl
  rw [if_neg (by simp [hw]), hd]
  exact k _ (hs.put d undef hN)

/-- the operation runs to v, and to the world w' -/
def Do (P : Program) (o : Oper) (L : Slots) (w : World) (n : Next) (w' : World) : Prop :=
  ∀ a : Act, (∀ x u, ev L x = some u → a.eval x = u) → (execOp a.eval o).run P w = .ok n w'

theorem st_do {o : Oper} {v : Value} {w' : World} (hs : Sl N L a) (hy : Do P o L w (.value v) w') (hw : Wanted ops L o.guard) (hd : o.dst = some d) (hN : Nat.ble (d + 1) N = true)
    (k : ∀ a, Sl N ((d, v) :: L) a → wpList P ops Q rest a w') : wpList P ops Q (o :: rest) a w := by
  unfold wpList
  rw [if_pos (hw.out hs)]
  refine .inl ?_
  unfold Oper.wp
  rw [hy a (fun x u => hs.ev)]
  rw [Oper.upon_value, hd]
  exact k _ (hs.put d v hN)
theorem st_do0 {o : Oper} {w' : World} (hs : Sl N L a) (hy : Do P o L w .skip w') (hw : Wanted ops L o.guard) (hd : o.dst = none)
    (k : ∀ a, Sl N L a → wpList P ops Q rest a w') : wpList P ops Q (o :: rest) a w := by
  unfold wpList
  rw [if_pos (hw.out hs)]
  refine .inl ?_
  unfold Oper.wp
  rw [hy a (fun x u => hs.ev)]
  rw [Oper.upon_skip, hd]
  exact k _ hs

/-- a call of a Go function -/
theorem st_call {o : Oper} {f : FuncId} {args : Array Value} {Rel : Ending → World → Prop} (hs : Sl N L a) (hy : Do P o L w (.enter f args) w) (hw : Wanted ops L o.guard) (hd : o.dst = some d) (hN : Nat.ble (d + 1) N = true)
    (hc : Calls P f args w Rel) (k : ∀ e w', Rel e w' → ∃ v, e = .returned v ∧ ∀ a, Sl N ((d, v) :: L) a → wpList P ops Q rest a w') : wpList P ops Q (o :: rest) a w := by
  unfold wpList
  rw [if_pos (hw.out hs)]
  refine .inl ?_
  unfold Oper.wp
  rw [hy a (fun x u => hs.ev), Oper.upon_enter]
  refine hc.mono fun e w' hr => ?_
  obtain ⟨v, rfl, hk⟩ := k e w' hr
  simp only [hd]
  exact hk _ (hs.put d v hN)

theorem map_ev {a : Act} (h : ∀ x u, ev L x = some u → a.eval x = u) : ∀ (l : List Operand) (r : List Value), l.map (ev L) = r.map some → l.map a.eval = r
  | [], r, hr => by cases r <;> simp_all
  | x :: l, r, hr => by
    cases r with
    | nil => simp at hr
    | cons v r =>
      simp only [List.map_cons, List.cons.injEq] at hr
      simp [h _ _ hr.1, map_ev h l r hr.2]

theorem do_call {dst : Option Tmp} {f : FuncId} {args : Array Operand} {at_ : Array TypeId} {vs : List Value} (hc : ∀ args w, (callFunc f args).run P w = .ok (.enter f args) w) (ha : args.toList.map (ev L) = vs.map some) :
    Do P ⟨dst, .call { callee := .value (.func f), args := args, argTypes := at_ }, ty, pos, af, g⟩ L w (.enter f vs.toArray) w := fun a h => by
  have e : args.map a.eval = vs.toArray := by apply Array.ext'; simpa using map_ev h _ _ ha
  simp [execOp, resolve, Act.eval, Deferred.ofValue, invoke, e, hc]
theorem do_callF {dst : Option Tmp} {x : Operand} {f : FuncId} {first cap : List Value} {args : Array Operand} {at_ : Array TypeId} {vs : List Value} (hc : ∀ args w, (callFunc f args).run P w = .ok (.enter f args) w) (hx : ev L x = some (.func (.func f) first.toArray cap.toArray)) (ha : args.toList.map (ev L) = vs.map some) :
    Do P ⟨dst, .call { callee := .value x, args := args, argTypes := at_ }, ty, pos, af, g⟩ L w (.enter f (first ++ vs ++ cap).toArray) w := fun a h => by
  have e : args.map a.eval = vs.toArray := by apply Array.ext'; simpa using map_ev h _ _ ha
  simp [execOp, resolve, h _ _ hx, Deferred.ofValue, invoke, e, hc]

/-! ### variables of the call's own -/

theorem grown_alloc (w : World) (o : Obj) (row : Option Nat) : Grew w (w.alloc o) row := ⟨⟨rfl, rfl, rfl, by simp, fun k hk _ => heap_alloc_old w o k hk⟩, Nat.le_refl _⟩

theorem w_alloc {T : TypeId} {z : Value} {cs : List Value} (hs : Sl N L a) (hw : Wd fx S R E w) (hz : ZeroT P T z) (hc : z.cells = cs.toArray) (hN : Nat.ble (d + 1) N = true) (hwt : Wanted ops L g)
    (k : ∀ b a w, Sl N ((d, .pointer (some ⟨b, 0, none⟩)) :: L) a → Wd fx S (.box b cs T :: R) E w → wpList P ops Q rest a w) : wpList P ops Q (⟨some d, .alloc T, ty, pos, af, g⟩ :: rest) a w := by
  refine st_do hs (v := .pointer (some ⟨w.heap.size, 0, none⟩)) (w' := w.alloc (.cells cs.toArray T)) (fun a h => ?_) hwt rfl hN fun a hs => ?_
  · simp [execOp, Instr.alloc, hz, newVar, newRow, hc]
  · exact k _ _ _ hs (hw.new (grown_alloc _ _ _) (heap_alloc_new w _) (fun b hb => by simp only [Res.blk, Option.some.injEq] at hb; subst hb; simp))

theorem w_box {T : TypeId} {x : Operand} {v : Value} {cs : List Value} (hs : Sl N L a) (hw : Wd fx S R E w) (hx : ev L x = some v) (hc : v.cells = cs.toArray) (hN : Nat.ble (d + 1) N = true) (hwt : Wanted ops L g)
    (k : ∀ b a w, Sl N ((d, .pointer (some ⟨b, 0, none⟩)) :: L) a → Wd fx S (.box b cs T :: R) E w → wpList P ops Q rest a w) : wpList P ops Q (⟨some d, .box T x, ty, pos, af, g⟩ :: rest) a w := by
  refine st_do hs (v := .pointer (some ⟨w.heap.size, 0, none⟩)) (w' := w.alloc (.cells cs.toArray T)) (fun a h => ?_) hwt rfl hN fun a hs => ?_
  · simp [execOp, Instr.box, h _ _ hx, newVar, newRow, hc]
  · exact k _ _ _ hs (hw.new (grown_alloc _ _ _) (heap_alloc_new w _) (fun b hb => by simp only [Res.blk, Option.some.injEq] at hb; subst hb; simp))

theorem grown_setRow (w : World) (g : Nat) (cs : Array Value) : Grew w (w.setRow g cs) (some g) :=
  ⟨⟨rfl, rfl, rfl, by simp, fun k _ hk => setRow_other w g k cs (fun e => hk (by rw [e]))⟩, Nat.le_refl _⟩

theorem run_storeVar_at {T : TypeId} {b o m : Nat} {v : Value} {cs : List Value} {T' : TypeId} (hsz : SzT P T m) (hb : w.heap[b]? = some (.cells cs.toArray T' (0, 0))) (hm : v.cells.toList.length = m) (h1 : v.cells.toList.all (·.oneCell') = true) (hf : o + m ≤ cs.length) :
    (storeVar T ⟨b, o, none⟩ v).run P w = .ok () (w.setRow b (cs.take o ++ v.cells.toList ++ cs.drop (o + m)).toArray) := by
  have := run_storeCells_at P b o T' v.cells.toList 0 cs.toArray w hb (by simp only [Nat.add_zero, List.size_toArray]; omega) (fun x hx => List.all_eq_true.1 h1 x hx)
  have hm' : v.cells.size = m := by simpa using hm
  simp only [Nat.add_zero, hm, List.toList_toArray] at this
  simp only [storeVar, Sem.run_bind, hsz w, Result.andThen_ok, hm', ne_eq, not_true, if_false, this]

theorem w_store {T : TypeId} {x y : Operand} {b o m : Nat} {v : Value} {cs cs' : List Value} {T' : TypeId} (hs : Sl N L a) (hw : Wd fx S R E w) (i : Nat) (hr : R[i]? = some (.box b cs T')) (hx : ev L x = some (.pointer (some ⟨b, o, none⟩))) (hy : ev L y = some v)
    (hsz : SzT P T m) (hm : v.cells.toList.length = m) (h1 : v.cells.toList.all (·.oneCell') = true) (hf : Nat.ble (o + m) cs.length = true) (hcs : cs.take o ++ v.cells.toList ++ cs.drop (o + m) = cs') (hwt : Wanted ops L g)
    (k : ∀ a w, Sl N L a → Wd fx S (R.set i (.box b cs' T')) E w → wpList P ops Q rest a w) : wpList P ops Q (⟨none, .store T x y, ty, pos, af, g⟩ :: rest) a w := by
  have hb := hw.ownAt i hr
  refine st_do0 hs (w' := w.setRow b cs'.toArray) (fun a h => ?_) hwt rfl fun a hs => ?_
  · simp [execOp, h _ _ hx, h _ _ hy, Instr.storeAt, Instr.sureAddr, run_storeVar_at hsz hb hm h1 (Nat.le_of_ble_eq_true hf), hcs]
  · exact k _ _ hs (hw.put i hr (grown_setRow _ _ _) (setRow_heap w b _ _ _ _ hb) (fun c hc => ⟨.inl hc, by have := (hw.at_ _ (List.mem_of_getElem? hr) c hc).2.1; simpa using this⟩))

/-! ### reading -/

theorem cell_of_list {b j : Nat} {cs : List Value} {T : TypeId} {v : Value} (hb : w.heap[b]? = some (.cells cs.toArray T (0, 0))) (hv : cs[j]? = some v) : w.cell? ⟨b, j, none⟩ = some v := by
  rw [cell_of_row w b j _ T (0, 0) hb]; simpa using hv

theorem y_loadB1 {T : TypeId} {x : Operand} {b o : Nat} {v : Value} {cs : List Value} {T' : TypeId} {dd : Option Tmp} (hb : (Res.box b cs T').own w) (hx : ev L x = some (.pointer (some ⟨b, o, none⟩))) (ha : AggT P T false) (hv : cs[o]? = some v) :
    Yd P ⟨dd, .load T x, ty, pos, af, g⟩ L w v := y_load1 ha hx (cell_of_list hb hv)
theorem y_loadBA {T : TypeId} {x : Operand} {b o m : Nat} {vs : List Value} {cs : List Value} {T' : TypeId} {dd : Option Tmp} (hb : (Res.box b cs T').own w) (hx : ev L x = some (.pointer (some ⟨b, o, none⟩))) (ha : AggT P T true) (hsz : SzT P T m)
    (hv : (cs.drop o).take m = vs) (hm : Nat.beq vs.length m = true) : Yd P ⟨dd, .load T x, ty, pos, af, g⟩ L w (.agg vs.toArray) := by
  refine y_loadA ha hsz hx hm fun j v hj => cell_of_list hb ?_
  rw [← hv] at hj
  rw [List.getElem?_take] at hj
  split at hj
  · rw [List.getElem?_drop] at hj; exact hj
  · cases hj
/-- a cell of shared memory -/
theorem y_loadE1 {T : TypeId} {x : Operand} {b o j : Nat} {v : Value} {cs : List Value} {dd : Option Tmp} (hE : ∃ S, (CeA b o cs).p S w) (hx : ev L x = some (.pointer (some ⟨b, o + j, none⟩))) (ha : AggT P T false) (hv : cs[j]? = some v) :
    Yd P ⟨dd, .load T x, ty, pos, af, g⟩ L w v := by
  obtain ⟨S, h⟩ := hE
  exact y_load1 ha hx (h.2 j v hv)
theorem y_loadEA {T : TypeId} {x : Operand} {b o j m : Nat} {cs vs : List Value} {dd : Option Tmp} (hE : ∃ S, (CeA b o cs).p S w) (hx : ev L x = some (.pointer (some ⟨b, o + j, none⟩))) (ha : AggT P T true) (hsz : SzT P T m)
    (hv : (cs.drop j).take m = vs) (hm : Nat.beq vs.length m = true) : Yd P ⟨dd, .load T x, ty, pos, af, g⟩ L w (.agg vs.toArray) := by
  obtain ⟨S, h⟩ := hE
  refine y_loadA ha hsz hx hm fun q v hj => ?_
  rw [← hv, List.getElem?_take] at hj
  split at hj
  · rw [List.getElem?_drop] at hj
    rw [Nat.add_assoc]
    exact h.2 _ v hj
  · cases hj

/-- an element of a shared slice -/
theorem Wd.elem {α : Type} [Enc α] (hw : Wd fx S R E w) (i : Nat) {p : Option Addr} {n k : Nat} {xs : List α} (hr : E[i]? = some (SlA p n k xs)) {j : Int} (h0 : 0 ≤ j) {x : α} (hx : xs[j.toNat]? = some x) :
    ∃ b o cs, p = some ⟨b, o, none⟩ ∧ j < n ∧ (CeA b (o + j.toNat * Enc.sz α) cs).p S w ∧ Enc.rd S w cs x := by
  obtain ⟨h1, h2, h3, h4⟩ := hw.envAt i hr
  obtain ⟨hlt, he⟩ := List.getElem?_eq_some_iff.1 hx
  cases p with
  | none => have := h3 rfl; omega
  | some a =>
    obtain ⟨h5, h6, h7⟩ := h4 a rfl
    obtain ⟨cs, hc, hrd⟩ := h7 j.toNat hlt
    obtain ⟨b, o, sp⟩ := a
    simp only at h5
    have h5 := h5 (by omega); subst h5
    exact ⟨b, o, cs, rfl, by omega, ⟨h6 (by omega), hc⟩, he ▸ hrd⟩

/-! ### rows of the call's own -/

theorem row_some {p : Option Addr} {n k : Nat} {cs : List Value} {T : TypeId} {sz : Nat} (h : (Res.row p n k cs T sz).own w) (hn : 0 < n) : ∃ b, p = some ⟨b, 0, none⟩ := by
  rcases h.2 with ⟨_, h0⟩ | ⟨b, cap, cur, e, _⟩
  · omega
  · simp only [Value.slice.injEq] at e; exact ⟨b, e.1⟩
theorem row_cells {b n k : Nat} {cs : List Value} {T : TypeId} {sz : Nat} (h : (Res.row (some ⟨b, 0, none⟩) n k cs T sz).own w) : ∃ cur, w.heap[b]? = some (.cells cur T (0, 0)) ∧ cur.toList.take (n * sz) = cs ∧ cs.length = n * sz ∧ cur.size = k * sz ∧ n ≤ k ∧ k ≤ maxLen := by
  rcases h.2 with ⟨e, _⟩ | ⟨b', cap, cur, e, _, h1, h2, h3, h4, h5⟩
  · cases e
  · simp only [Value.slice.injEq, Option.some.injEq, Addr.mk.injEq] at e
    obtain ⟨⟨rfl, _⟩, _, rfl⟩ := e
    exact ⟨cur, h1, h5, h.1, h4, h2, h3⟩
theorem row_cell {b n k j : Nat} {cs : List Value} {T : TypeId} {sz : Nat} {v : Value} (h : (Res.row (some ⟨b, 0, none⟩) n k cs T sz).own w) (hv : cs[j]? = some v) : w.cell? ⟨b, j, none⟩ = some v := by
  obtain ⟨cur, h1, h2, _⟩ := row_cells h
  rw [cell_of_row w b j cur T (0, 0) h1]
  rw [← h2, List.getElem?_take] at hv
  split at hv
  · simpa using hv
  · cases hv
theorem getElem_elem {cs es : List Value} {q sz j : Nat} {v : Value} (he : (cs.drop (q * sz)).take sz = es) (hv : es[j]? = some v) : cs[q * sz + j]? = some v := by
  rw [← he, List.getElem?_take] at hv
  split at hv
  · rw [List.getElem?_drop] at hv; exact hv
  · cases hv
theorem y_loadR1 {T : TypeId} {x : Operand} {b n k q sz j : Nat} {v : Value} {cs es : List Value} {T' : TypeId} {dd : Option Tmp} (hr : (Res.row (some ⟨b, 0, none⟩) n k cs T' sz).own w) (hx : ev L x = some (.pointer (some ⟨b, 0 + q * sz + j, none⟩)))
    (ha : AggT P T false) (he : (cs.drop (q * sz)).take sz = es) (hv : es[j]? = some v) : Yd P ⟨dd, .load T x, ty, pos, af, g⟩ L w v :=
  y_load1 ha hx (by rw [Nat.zero_add]; exact row_cell hr (getElem_elem he hv))
theorem y_loadRA {T : TypeId} {x : Operand} {b n k q sz j m : Nat} {cs es vs : List Value} {T' : TypeId} {dd : Option Tmp} (hr : (Res.row (some ⟨b, 0, none⟩) n k cs T' sz).own w) (hx : ev L x = some (.pointer (some ⟨b, 0 + q * sz + j, none⟩)))
    (ha : AggT P T true) (hsz : SzT P T m) (he : (cs.drop (q * sz)).take sz = es) (hv : (es.drop j).take m = vs) (hm : Nat.beq vs.length m = true) : Yd P ⟨dd, .load T x, ty, pos, af, g⟩ L w (.agg vs.toArray) := by
  refine y_loadA ha hsz hx hm fun r v hj => ?_
  rw [← hv, List.getElem?_take] at hj
  split at hj
  · rw [List.getElem?_drop] at hj
    rw [Nat.zero_add, Nat.add_assoc]
    exact row_cell hr (getElem_elem he hj)
  · cases hj

/-- a slice type: its element's type, its cells, its bytes, its zero -/
structure ElT (P : Program) (t e : TypeId) (size bytes : Nat) (z : Value) : Prop where
  und : P.underlying t = some (.slice e)
  info : ∃ i, P.info? e = some i ∧ i.size = size ∧ i.bytes = bytes ∧ i.zero = some z
  zs : z.cells.size = size
  pos : 0 < size

theorem info_of {P : Program} {t : TypeId} {i : TypeInfo} (h : P.types[t]? = some i) : P.info? t = some i := by
  unfold Tables.info?; rw [if_pos (Array.getElem?_eq_some_iff.1 h).1]; exact h

theorem run_append_row {t e ty : TypeId} {size bytes : Nat} {z : Value} (ht : ElT P t e size bytes z) {p : Option Addr} {n k : Nat} {cs : List Value} (hown : (Res.row p n k cs e size).own w)
    {ad : Addr} {m c : Nat} {news : List Value} (hl : news.length = m * size) (hnews : ∀ j u, news[j]? = some u → w.cell? (ad.add j) = some u) (h1 : ∀ u ∈ news, u.oneCell' = true) (h63 : n + m ≤ maxLen) (hbytes : (n + m) * bytes ≤ 140737488355328) :
    ∃ p' k' w', (Builtin.append_ #[t, t] ty #[.slice p n k, .slice (some ad) m c]).run P w = .ok (.slice p' (n + m) k') w' ∧ (Res.row p' (n + m) k' (cs ++ news) e size).own w' ∧ Grew w w' (p.map (·.block)) ∧
      ∀ b, p'.map (·.block) = some b → (p.map (·.block) = some b ∨ w.heap.size ≤ b) ∧ b < w'.heap.size := by
  obtain ⟨hu, ⟨i, hi, rfl, rfl, hz⟩, hzs, hpos⟩ := ht
  have hsmall : n + m ≤ 9223372036854775807 := by simp only [maxLen] at h63; omega
  obtain ⟨hcl, hown'⟩ := hown
  have hlen : (cs ++ news).length = (n + m) * i.size := by rw [List.length_append, hcl, hl, Nat.add_mul]
  have grown : ∀ (old : Nat), old < n + m → ∀ (row : Option Nat),
      (Res.row (some ⟨w.heap.size, 0, none⟩) (n + m) (grownCap w (n + m) old e) (cs ++ news) e i.size).own (w.drew.alloc (.cells (cs.toArray ++ news.toArray ++ Builtin.zeroCells z.cells (grownCap w (n + m) old e - (n + m))) e)) ∧
      Grew w (w.drew.alloc (.cells (cs.toArray ++ news.toArray ++ Builtin.zeroCells z.cells (grownCap w (n + m) old e - (n + m))) e)) row := by
    intro old ho row
    have hge := grownCap_ge w (n + m) old e
    have hcm : grownCap w (n + m) old e ≤ maxLen := grownCap_le_maxLen w (n + m) old e h63
    refine ⟨⟨hlen, .inr ⟨w.heap.size, _, _, rfl, Nat.zero_le _, heap_alloc_new w.drew _, hge, hcm, ?_, ?_⟩⟩, ⟨⟨rfl, rfl, rfl, by simp, fun k hk _ => heap_alloc_old w.drew _ k hk⟩, Nat.le_succ _⟩⟩
    · simp only [Array.size_append, List.size_toArray, size_zeroCells, hzs, hcl, hl, ← Nat.add_mul]
      congr 1
      omega
    · simp only [Array.toList_append, List.append_assoc]
      rw [← List.append_assoc, ← hlen]
      exact List.take_left
  rcases hown' with ⟨e0, rfl⟩ | ⟨b, cap, cur, e0, _, hg, hnc, hcm, hcs, htake⟩
  · simp only [Value.slice.injEq] at e0
    obtain ⟨rfl, -, rfl⟩ := e0
    have hx : cs = [] := List.eq_nil_of_length_eq_zero (by simpa using hcl)
    subst hx
    by_cases hm : m = 0
    · subst hm
      have hn : news = [] := List.eq_nil_of_length_eq_zero (by simpa using hl)
      subst hn
      refine ⟨none, 0, w, ?_, ⟨by simp, .inl ⟨rfl, rfl⟩⟩, ⟨⟨rfl, rfl, rfl, Nat.le_refl _, fun _ _ _ => rfl⟩, Nat.le_refl _⟩, fun b hb => by cases hb⟩
      simp [Builtin.append_, run_underlying hu, sizeOf, typeInfo, hi, Builtin.lenOf, Builtin.firstCells, loadCells, loadCellsFrom]
    · have hr := run_append_nil (P := P) w t ty e i z hu hi hz ad m c news hl hnews (by omega) (by omega) (by have hb := hbytes; simp only [Nat.zero_add] at hb; omega)
      have hgr := grown 0 (by omega) none
      simp only [Nat.zero_add, List.nil_append, Array.empty_append] at hgr ⊢
      exact ⟨_, _, _, hr, hgr.1, hgr.2, fun b hb => by simp only [Option.map_some, Option.some.injEq] at hb; subst hb; simp⟩
  · simp only [Value.slice.injEq] at e0
    obtain ⟨rfl, -, rfl⟩ := e0
    by_cases hroom : n + m ≤ k
    · have hfit : n * i.size + news.length ≤ cur.size := by rw [hl, hcs, ← Nat.add_mul]; exact Nat.mul_le_mul_right _ hroom
      have hr := run_append_room (P := P) w t ty e i hu hi b n k cur hg ad m c news hl hnews h1 hroom hfit
      refine ⟨_, _, _, hr, ⟨hlen, .inr ⟨b, k, _, rfl, Nat.zero_le _, setRow_heap w b cur _ e _ hg, hroom, hcm, ?_, ?_⟩⟩, ⟨⟨rfl, rfl, rfl, by simp, fun j _ hk => setRow_other w b j _ (fun e => hk (by simp [e]))⟩, Nat.le_refl _⟩, fun j hj => ⟨.inl hj, ?_⟩⟩
      · simp only [List.size_toArray, List.length_append, List.length_take, List.length_drop, Array.length_toList]
        omega
      · rw [htake, ← hlen]
        exact List.take_left
      · simp only [Option.map_some, Option.some.injEq] at hj; subst hj; simpa using (Array.getElem?_eq_some_iff.1 hg).1
    · have holds : ∀ j u, cs[j]? = some u → w.cell? ((⟨b, 0, none⟩ : Addr).add j) = some u := fun j u hu => by
        rw [addr_add, Nat.zero_add]
        exact row_cell (n := n) (k := k) (T := e) (sz := i.size) ⟨hcl, .inr ⟨b, k, cur, rfl, Nat.zero_le _, hg, hnc, hcm, hcs, htake⟩⟩ hu
      have hr := run_append_grow (P := P) w t ty e i z hu hi hz ⟨b, 0, none⟩ n k cs hcl holds ad m c news hl hnews (by omega) (by omega) (growslice_fits (by omega) hbytes)
      have hgr := grown k (by omega) (some b)
      exact ⟨_, _, _, hr, hgr.1, hgr.2, fun j hj => by simp only [Option.map_some, Option.some.injEq] at hj; subst hj; simp⟩

theorem run_append_rowN {t e ty : TypeId} {size bytes : Nat} {z : Value} (ht : ElT P t e size bytes z) {p : Option Addr} {n k : Nat} {cs : List Value} (hown : (Res.row p n k cs e size).own w) :
    (Builtin.append_ #[t, t] ty #[.slice p n k, .slice none 0 0]).run P w = .ok (.slice p n k) w := by
  obtain ⟨hu, ⟨i, hi, rfl, rfl, hz⟩, hzs, hpos⟩ := ht
  have hnk : n ≤ k := by
    rcases hown.2 with ⟨e0, rfl⟩ | ⟨b, cap, cur, e0, _, hg, hnc, hcm, hcs, htake⟩
    · exact Nat.zero_le _
    · simp only [Value.slice.injEq] at e0; omega
  cases p <;> simp [Builtin.append_, run_underlying hu, sizeOf, typeInfo, hi, Builtin.lenOf, Builtin.firstCells, hnk, storeCells]

end steps
end Go.Proofs.YthdimlepjpnncaaGreat.Wk

/- A library for walks over any program: elements of slices, stores into rows of the call's own, new rows; partial arithmetic. No statement of the seat is used here. -/
import Derived.Test.YthdimlepjpnncaaGreatLibE
namespace Go.Proofs.YthdimlepjpnncaaGreat.Wk
open Go Go.RowKit Go.Proofs.YthdimlepjpnncaaGreat.Sh
set_option linter.unusedSimpArgs false
set_option linter.unusedVariables false

section steps
variable {P : Program} {ops : Array Oper} {Q : Exit → Act → World → Prop} {rest : List Oper} {N : Nat} {L : Slots} {a : Act} {w w' : World} {fx : Fx} {S S' : Nat → Prop} {R : List Res} {E : List Asrt}
variable {ty : TypeId} {pos : String} {af : Array Edge} {g : Option (Nat × Bool)} {d : Nat} {dd : Option Tmp}

theorem y_assignI {x : Operand} {k : IntKind} {m n : Int} (hx : ev L x = some (.int k m)) (h : some m = some n) : Yd P ⟨dd, .assign x, ty, pos, af, g⟩ L w (.int k n) := by
  rw [← Option.some.inj h]; exact y_assign hx
theorem y_assignB {x : Operand} {m n : Bool} (hx : ev L x = some (.bool m)) (h : some m = some n) : Yd P ⟨dd, .assign x, ty, pos, af, g⟩ L w (.bool n) := by
  rw [← Option.some.inj h]; exact y_assign hx
section bin
variable {x y : Operand} {k : IntKind} {m n r : Int} {xt yt : TypeId}
theorem y_remM (hx : ev L x = some (.int k m)) (hy : ev L y = some (.int k n)) (h : remM m n = some r) : Yd P ⟨dd, .binOp .rem xt x y yt, ty, pos, af, g⟩ L w (.int k r) := by
  obtain ⟨h0, rfl⟩ := remM_t h; exact y_rem hx hy h0
theorem y_quoM (hx : ev L x = some (.int k m)) (hy : ev L y = some (.int k n)) (h : quoM k m n = some r) : Yd P ⟨dd, .binOp .quo xt x y yt, ty, pos, af, g⟩ L w (.int k r) := by
  obtain ⟨h0, rfl⟩ := quoM_t h; exact y_quo hx hy h0
theorem y_shlM {k' : IntKind} (hx : ev L x = some (.int k m)) (hy : ev L y = some (.int k' n)) (h : shlM k m n = some r) : Yd P ⟨dd, .binOp .shl xt x y yt, ty, pos, af, g⟩ L w (.int k r) := by
  obtain ⟨h0, rfl⟩ := shlM_t h; exact y_shl hx hy h0
theorem y_shrM {k' : IntKind} (hx : ev L x = some (.int k m)) (hy : ev L y = some (.int k' n)) (h : shrM k m n = some r) : Yd P ⟨dd, .binOp .shr xt x y yt, ty, pos, af, g⟩ L w (.int k r) := by
  obtain ⟨h0, rfl⟩ := shrM_t h; exact y_shr hx hy h0
end bin
theorem y_indexSM {t : TypeId} {x i : Operand} {s : ByteArray} {kk : IntKind} {j r : Int} (hu : UndT P t .string) (hx : ev L x = some (.string s)) (hi : ev L i = some (.int kk j)) (h : byteAt s j = some r) :
    Yd P ⟨dd, .index t x i, ty, pos, af, g⟩ L w (.int .u8 r) := by
  obtain ⟨h0, c, hc, rfl⟩ := byteAt_t h; exact y_indexS hu hx hi h0 hc

/-- the address of an element -/
theorem y_indexAt {t e : TypeId} {x i : Operand} {b o q n k sz : Nat} {kk : IntKind} {j : Int} (hu : UndT P t (.slice e)) (hsz : SzT P e sz) (hx : ev L x = some (.slice (some ⟨b, o, none⟩) n k)) (hi : ev L i = some (.int kk j)) (h0 : 0 ≤ j) (hn : j < n) (hq : o + j.toNat * sz = q) :
    Yd P ⟨dd, .indexAddr t x i, ty, pos, af, g⟩ L w (.pointer (some ⟨b, q, none⟩)) := by
  subst hq; exact y_indexAddr hu hsz hx hi h0 hn

theorem y_indexAtA {t e : TypeId} {x i : Operand} {b o q n sz : Nat} {kk : IntKind} {j : Int} (hu : UndT P t (.array n e)) (hsz : SzT P e sz) (hx : ev L x = some (.pointer (some ⟨b, o, none⟩))) (hi : ev L i = some (.int kk j)) (h0 : 0 ≤ j) (hn : j < n) (hq : o + j.toNat * sz = q) :
    Yd P ⟨dd, .indexAddr t x i, ty, pos, af, g⟩ L w (.pointer (some ⟨b, q, none⟩)) := by
  subst hq; exact y_indexAddrA hu hsz hx hi h0 hn
/-- an element of a shared slice: its place, its cells -/
theorem Wd.elemV {α : Type} [Enc α] (hw : Wd fx S R E w) (i : Nat) {p : Option Addr} {k : Nat} {xs : List α} (hr : E[i]? = some (SlA p xs.length k xs)) {j : Int} {x : α} (hx : ix xs j = some x) :
    ∃ b o q cs, p = some ⟨b, o, none⟩ ∧ (0 ≤ j ∧ j < (xs.length : Int)) ∧ o + j.toNat * Enc.sz α = q ∧ (CeA b q cs).p S w ∧ Enc.rd S w cs x := by
  obtain ⟨h0, h1, h2⟩ := ix_t hx
  obtain ⟨b, o, cs, hp, hlt, hce, hrd⟩ := hw.elem i hr h0 h2
  exact ⟨b, o, _, cs, hp, ⟨h0, hlt⟩, rfl, hce, hrd⟩
theorem Wd.elemK {α : Type} [Enc α] (hw : Wd fx S R E w) (i : Nat) {b o k : Nat} {xs : List α} (hr : E[i]? = some (SlA (some ⟨b, o, none⟩) xs.length k xs)) {j : Int} {x : α} (hx : ix xs j = some x) :
    ∃ q cs, (0 ≤ j ∧ j < (xs.length : Int)) ∧ o + j.toNat * Enc.sz α = q ∧ (CeA b q cs).p S w ∧ Enc.rd S w cs x := by
  obtain ⟨b', o', q, cs, hp, h1, h2, h3, h4⟩ := hw.elemV i hr hx
  simp only [Option.some.injEq, Addr.mk.injEq] at hp
  obtain ⟨rfl, rfl, _⟩ := hp
  exact ⟨q, cs, h1, h2, h3, h4⟩
/-- an element of a row of the call's own -/
theorem Wd.elemRV {α : Type} [Enc α] (hw : Wd fx S R E w) (i : Nat) {p : Option Addr} {k : Nat} {cs : List Value} {T : TypeId} {xs : List α} (hr : R[i]? = some (.row p xs.length k cs T (Enc.sz α))) (ie : Nat) (hE : E[ie]? = some (RowA cs xs)) {j : Int} {x : α} (hx : ix xs j = some x) :
    ∃ b q es, p = some ⟨b, 0, none⟩ ∧ (0 ≤ j ∧ j < (xs.length : Int)) ∧ 0 + j.toNat * Enc.sz α = q ∧ (cs.drop q).take (Enc.sz α) = es ∧ Enc.rd S w es x := by
  obtain ⟨h0, h1, h2⟩ := ix_t hx
  obtain ⟨b, rfl⟩ := row_some (hw.ownAt i hr) (by omega)
  obtain ⟨hlt, he⟩ := List.getElem?_eq_some_iff.1 h2
  have hR : RdL S w cs xs := hw.envAt ie hE
  have := hR.get j.toNat hlt
  rw [he] at this
  exact ⟨b, _, _, rfl, ⟨h0, h1⟩, rfl, by rw [Nat.zero_add], this⟩
theorem Wd.elemRK {α : Type} [Enc α] (hw : Wd fx S R E w) (i : Nat) {b k : Nat} {cs : List Value} {T : TypeId} {xs : List α} (hr : R[i]? = some (.row (some ⟨b, 0, none⟩) xs.length k cs T (Enc.sz α))) (ie : Nat) (hE : E[ie]? = some (RowA cs xs)) {j : Int} {x : α} (hx : ix xs j = some x) :
    ∃ q es, (0 ≤ j ∧ j < (xs.length : Int)) ∧ 0 + j.toNat * Enc.sz α = q ∧ (cs.drop q).take (Enc.sz α) = es ∧ Enc.rd S w es x := by
  obtain ⟨b', q, es, hp, h⟩ := hw.elemRV i hr ie hE hx
  exact ⟨q, es, h⟩
/-- where an index lies in its bounds -/
theorem Wd.rowP {α : Type} [Enc α] (hw : Wd fx S R E w) (i : Nat) {p : Option Addr} {k : Nat} {cs : List Value} {T : TypeId} {xs : List α} (hr : R[i]? = some (.row p xs.length k cs T (Enc.sz α))) {j : Int} (h : 0 ≤ j ∧ j < (xs.length : Int)) : ∃ b, p = some ⟨b, 0, none⟩ :=
  row_some (hw.ownAt i hr) (by omega)

theorem take_cell {cs es : List Value} {q sz j : Nat} {v : Value} (he : (cs.drop q).take sz = es) (hv : es[j]? = some v) : cs[q + j]? = some v := by
  rw [← he, List.getElem?_take] at hv
  split at hv
  · rw [List.getElem?_drop] at hv; exact hv
  · cases hv
theorem y_loadQ1 {T : TypeId} {x : Operand} {b n k q sz sz' j : Nat} {v : Value} {cs es : List Value} {T' : TypeId} (hr : (Res.row (some ⟨b, 0, none⟩) n k cs T' sz).own w) (hx : ev L x = some (.pointer (some ⟨b, q + j, none⟩)))
    (ha : AggT P T false) (he : (cs.drop q).take sz' = es) (hv : es[j]? = some v) : Yd P ⟨dd, .load T x, ty, pos, af, g⟩ L w v :=
  y_load1 ha hx (row_cell hr (take_cell he hv))
theorem y_loadQA {T : TypeId} {x : Operand} {b n k q sz sz' j m : Nat} {cs es vs : List Value} {T' : TypeId} (hr : (Res.row (some ⟨b, 0, none⟩) n k cs T' sz).own w) (hx : ev L x = some (.pointer (some ⟨b, q + j, none⟩)))
    (ha : AggT P T true) (hsz : SzT P T m) (he : (cs.drop q).take sz' = es) (hv : (es.drop j).take m = vs) (hm : Nat.beq vs.length m = true) : Yd P ⟨dd, .load T x, ty, pos, af, g⟩ L w (.agg vs.toArray) := by
  refine y_loadA ha hsz hx hm fun r v hj => ?_
  rw [← hv, List.getElem?_take] at hj
  split at hj
  · rw [List.getElem?_drop] at hj
    rw [Nat.add_assoc]
    exact row_cell hr (take_cell he hj)
  · cases hj

theorem list_put {cs : List Value} {q f m sz : Nat} {vs : List Value} (hm : vs.length = m) (hf : f + m ≤ sz) (hq : q + sz ≤ cs.length) :
    ((cs.take (q + f) ++ vs ++ cs.drop (q + f + m)).drop q).take sz = ((cs.drop q).take sz).take f ++ vs ++ ((cs.drop q).take sz).drop (f + m) := by
  apply List.ext_getElem?
  intro j
  simp only [List.append_assoc, List.getElem?_append, List.length_take, List.getElem?_take, List.getElem?_drop, List.length_drop]
  by_cases h1 : j < sz
  · rw [if_pos h1]
    by_cases h2 : j < f
    · simp [show q + j < min (q + f) cs.length by omega, show q + j < q + f by omega, show j < min f (min sz (cs.length - q)) by omega, h2, h1]
    · have e1 : min (q + f) cs.length = q + f := by omega
      have e2 : min f (min sz (cs.length - q)) = f := by omega
      rw [e1, e2, if_neg (by omega), if_neg h2]
      by_cases h3 : j - f < vs.length
      · rw [if_pos (by omega), if_pos h3]
        congr 1
        omega
      · rw [if_neg (by omega), if_neg h3, if_pos (by omega)]
        congr 1
        omega
  · rw [if_neg h1]
    have e2 : min f (min sz (cs.length - q)) = f := by omega
    rw [e2, if_neg (by omega), if_neg (by omega), if_neg (by omega)]

theorem mul_add_le {i n sz : Nat} (h : i < n) : i * sz + sz ≤ n * sz := by
  rw [← Nat.succ_mul]; exact Nat.mul_le_mul_right _ h

/-- a store into an element of a row of the call's own -/
theorem Wd.fixR (h : Wd fx S R E w) (i : Nat) {r r' : Res} (hr : R[i]? = some r) (e : r = r') : Wd fx S (R.set i r') E w := by
  subst e
  have : R.set i r = R := by
    apply List.ext_getElem? ; intro j
    rw [List.getElem?_set]
    split
    · next hij => subst hij; split <;> simp_all
    · rfl
  rw [this]; exact h

theorem setM_len {α : Type} {xs ys : List α} {i : Int} {v : α} (h : setM xs i v = some ys) : ys.length = xs.length := by
  obtain ⟨_, rfl⟩ := setM_t h; exact List.length_set

theorem w_storeR {α : Type} [Enc α] {T : TypeId} {x y : Operand} {b k m f q : Nat} {v : Value} {cs : List Value} {T' : TypeId} {xs xs' : List α} {idx : Int} {x' : α} (hs : Sl N L a) (hw : Wd fx S R E w) (i : Nat) (hr : R[i]? = some (.row (some ⟨b, 0, none⟩) xs.length k cs T' (Enc.sz α))) (ie : Nat) (hE : E[ie]? = some (RowA cs xs))
    (hq : 0 + idx.toNat * Enc.sz α = q) (hx : ev L x = some (.pointer (some ⟨b, q + f, none⟩))) (hy : ev L y = some v) (hsz : SzT P T m) (hm : v.cells.toList.length = m) (h1 : v.cells.toList.all (·.oneCell') = true) (hf : Nat.ble (f + m) (Enc.sz α) = true)
    (hset : setM xs idx x' = some xs') (hrd : ∀ es, (cs.drop q).take (Enc.sz α) = es → Enc.rd S w (es.take f ++ v.cells.toList ++ es.drop (f + m)) x') (hwt : Wanted ops L g)
    (K : ∀ cs' a w, Sl N L a → Wd fx S (R.set i (.row (some ⟨b, 0, none⟩) xs'.length k cs' T' (Enc.sz α))) (RowA cs' xs' :: E) w → wpList P ops Q rest a w) : wpList P ops Q (⟨none, .store T x y, ty, pos, af, g⟩ :: rest) a w := by
  obtain ⟨hbd, rfl⟩ := setM_t hset
  have ho := hw.ownAt i hr
  obtain ⟨cur, c1, c2, c3, c4, c5, c6⟩ := row_cells ho
  have hR : RdL S w cs xs := hw.envAt ie hE
  have hlt : idx.toNat < xs.length := by omega
  have hf' := Nat.le_of_ble_eq_true hf
  have hqle : q + Enc.sz α ≤ cs.length := by rw [c3, ← hq, Nat.zero_add]; exact mul_add_le hlt
  have hcur : cs.length ≤ cur.toList.length := by rw [← c2]; exact List.length_take_le' _ _
  have hfit : q + f + m ≤ cur.toList.length := by omega
  have hnew : (cur.toList.take (q + f) ++ v.cells.toList ++ cur.toList.drop (q + f + m)).take (xs.length * Enc.sz α) = cs.take (q + f) ++ v.cells.toList ++ cs.drop (q + f + m) := by
    have e1 : cs.take (q + f) = cur.toList.take (q + f) := by rw [← c2, List.take_take]; congr 1; omega
    have e2 : cs.drop (q + f + m) = (cur.toList.drop (q + f + m)).take (xs.length * Enc.sz α - (q + f + m)) := by rw [← c2, List.drop_take]
    rw [e1, e2, List.take_append, List.take_of_length_le (by simp only [List.length_append, List.length_take]; omega)]
    congr 2
    simp only [List.length_append, List.length_take]
    omega
  have hlen : (cs.take (q + f) ++ v.cells.toList ++ cs.drop (q + f + m)).length = cs.length := by
    simp only [List.length_append, List.length_take, List.length_drop]; omega
  have hrow : RdL S w (cs.take (q + f) ++ v.cells.toList ++ cs.drop (q + f + m)) (xs.set idx.toNat x') := by
    refine RdL.of_get (by rw [hlen, List.length_set]; exact c3) fun j hj => ?_
    rw [List.length_set] at hj
    by_cases hji : j = idx.toNat
    · subst hji
      rw [show idx.toNat * Enc.sz α = q by omega, list_put hm hf' hqle]
      simp only [List.getElem_set_self]
      exact hrd _ rfl
    · rw [List.getElem_set_ne (by omega)]
      have hg := hR.get j hj
      have hside : j * Enc.sz α + Enc.sz α ≤ q ∨ q + Enc.sz α ≤ j * Enc.sz α := by
        rcases Nat.lt_or_gt_of_ne hji with h | h
        · left; have := mul_add_le (sz := Enc.sz α) h; omega
        · right; have := mul_add_le (sz := Enc.sz α) h; omega
      have he : ((cs.take (q + f) ++ v.cells.toList ++ cs.drop (q + f + m)).drop (j * Enc.sz α)).take (Enc.sz α) = (cs.drop (j * Enc.sz α)).take (Enc.sz α) := by
        apply List.ext_getElem?
        intro c
        simp only [List.append_assoc, List.getElem?_append, List.length_take, List.getElem?_take, List.getElem?_drop]
        by_cases hc : c < Enc.sz α
        · rw [if_pos hc, if_pos hc]
          rcases hside with h | h
          · rw [if_pos (by omega), if_pos (by omega)]
          · rw [if_neg (by omega), if_neg (by omega)]
            congr 1
            omega
        · rw [if_neg hc, if_neg hc]
      rw [he]
      exact hg
  have hrowA : (RowA (cs.take (q + f) ++ v.cells.toList ++ cs.drop (q + f + m)) (xs.set idx.toNat x')).p S w := hrow
  have hcur' : w.heap[b]? = some (.cells cur.toList.toArray T' (0, 0)) := by simpa using c1
  refine st_do0 hs (w' := w.setRow b (cur.toList.take (q + f) ++ v.cells.toList ++ cur.toList.drop (q + f + m)).toArray) (fun a h => ?_) hwt rfl fun a hs => ?_
  · have := run_storeVar_at (o := q + f) hsz hcur' hm h1 hfit
    simp [execOp, h _ _ hx, h _ _ hy, Instr.storeAt, Instr.sureAddr, this]
  · refine K _ _ _ hs ((hw.addE hrowA).put i hr (grown_setRow _ _ _) ?_ (fun c hc => ⟨.inl hc, by have := (hw.at_ _ (List.mem_of_getElem? hr) c hc).2.1; simpa using this⟩))
    refine ⟨by rw [hlen, List.length_set]; exact c3, .inr ⟨b, k, (cur.toList.take (q + f) ++ v.cells.toList ++ cur.toList.drop (q + f + m)).toArray, by rw [List.length_set], Nat.zero_le _, setRow_heap w b _ _ _ _ c1, by rw [List.length_set]; exact c5, c6, ?_, ?_⟩⟩
    · simp only [List.size_toArray, List.length_append, List.length_take, List.length_drop]
      rw [← c4]
      simp only [Array.length_toList] at *
      omega
    · rw [List.toList_toArray, List.length_set]; exact hnew

theorem madeCells_rd {α : Type} [Enc α] {z : Value} {z0 : α} (hz : Enc.rd S w z.cells.toList z0) : ∀ n, RdL S w (madeCells z.cells (n * Enc.sz α)).toList (List.replicate n z0) := by
  intro n
  have hzl := Enc.len hz
  simp only [Array.length_toList] at hzl
  refine RdL.of_get (by simp [size_madeCells]) fun i hi => ?_
  simp only [List.length_replicate] at hi
  rw [List.getElem_replicate]
  have : ((madeCells z.cells (n * Enc.sz α)).toList.drop (i * Enc.sz α)).take (Enc.sz α) = z.cells.toList := by
    apply List.ext_getElem?
    intro j
    have hle := mul_add_le (sz := Enc.sz α) hi
    simp only [List.getElem?_take, List.getElem?_drop]
    by_cases hj : j < Enc.sz α
    · rw [if_pos hj]
      simp only [madeCells, Array.toList_map, List.getElem?_map, Array.toList_range, List.getElem?_range (show i * Enc.sz α + j < n * Enc.sz α by omega), Option.map_some, hzl]
      have e : (i * Enc.sz α + j) % Enc.sz α = j := by rw [Nat.mul_comm, Nat.mul_add_mod]; exact Nat.mod_eq_of_lt hj
      rw [e]
      have hj' : j < z.cells.size := by omega
      simp [hj']
    · rw [if_neg hj]
      simp; omega
  rw [this]
  exact hz

/-- make -/
theorem w_make {α : Type} [Enc α] {t e : TypeId} {bytes : Nat} {z : Value} {z0 : α} {x y : Operand} {kl kc : IntKind} {n : Int} {xs : List α} (hs : Sl N L a) (hw : Wd fx S R E w) (ht : ElT P t e (Enc.sz α) bytes z) (hz : Enc.rd S w z.cells.toList z0)
    (hx : ev L x = some (.int kl n)) (hy : ev L y = some (.int kc n)) (hm : makeM bytes z0 n = some xs) (hN : Nat.ble (d + 1) N = true) (hwt : Wanted ops L g)
    (K : ∀ p cs a w', Sl N ((d, .slice p xs.length xs.length) :: L) a → Wd fx S (.row p xs.length xs.length cs e (Enc.sz α) :: R) (RowA cs xs :: E) w' → wpList P ops Q rest a w') :
    wpList P ops Q (⟨some d, .makeSlice t x y, ty, pos, af, g⟩ :: rest) a w := by
  obtain ⟨⟨h0, h1, h2⟩, rfl⟩ := makeM_t hm
  obtain ⟨hu, ⟨i, hi, e1, e2, e3⟩, hzs, hpos⟩ := ht
  have hrun := run_make (P := P) w t e i z hu hi e3 kl kc n n h0 (Int.le_refl _) (by rw [e2]; omega) h1
  have hrd := madeCells_rd hz n.toNat
  have hA : (RowA (madeCells z.cells (n.toNat * Enc.sz α)).toList (List.replicate n.toNat z0)).p S w := hrd
  refine st_do hs (v := .slice (some ⟨w.heap.size, 0, none⟩) n.toNat n.toNat) (w' := w.alloc (.cells (madeCells z.cells (n.toNat * i.size)) e)) (fun a h => ?_) hwt rfl hN fun a hs => ?_
  · simp [execOp, h _ _ hx, h _ _ hy, hrun]
  · have hl : (List.replicate n.toNat z0).length = n.toNat := by simp
    rw [← hl] at hs
    refine K _ _ _ _ hs ((hw.addE hA).new (grown_alloc _ _ _) ⟨by simp [size_madeCells], .inr ⟨w.heap.size, n.toNat, madeCells z.cells (n.toNat * i.size), by simp, Nat.zero_le _, heap_alloc_new w _, by simp, ?_, by rw [size_madeCells, e1], ?_⟩⟩ (fun b hb => by simp only [Res.blk, Option.map_some, Option.some.injEq] at hb; subst hb; simp))
    · simp only [maxLen]; omega
    · rw [e1, hl, List.take_of_length_le (by simp [size_madeCells])]

theorem y_pickTE {c x y : Operand} {u v : Value} (hc : ev L c = some (.bool true)) (hx : ev L x = some u) (e : u = v) : Yd P ⟨dd, .pick c x y, ty, pos, af, g⟩ L w v := by
  subst e; exact y_pickT hc hx
theorem y_pickFE {c x y : Operand} {u v : Value} (hc : ev L c = some (.bool false)) (hy : ev L y = some u) (e : u = v) : Yd P ⟨dd, .pick c x y, ty, pos, af, g⟩ L w v := by
  subst e; exact y_pickF hc hy

theorem Keep.rfl' {S : Nat → Prop} {w : World} : Keep S S w w := fun _ h => ⟨h, rfl⟩
theorem Keep.trans {S S' S'' : Nat → Prop} {w w' w'' : World} (h : Keep S S' w w') (h' : Keep S' S'' w' w'') : Keep S S'' w w'' := fun b hb => ⟨(h' b (h b hb).1).1, (h' b (h b hb).1).2.trans (h b hb).2⟩
/-- a function value that came in, of one argument; what it captures is shared -/
def FnA1 {α β : Type} [Enc α] [Leaf β] (P : Program) (fid : FuncId) (first cap : List Value) (f : α → Option β) : Asrt :=
  ⟨fun S w => (∀ args w, (callFunc fid args).run P w = .ok (.enter fid args) w) ∧
    ∀ {S' : Nat → Prop} {w' : World}, Keep S S' w w' → (∀ b, S' b → b < w'.heap.size) → ∀ {cs : List Value} {x : α} {r : β}, Enc.rd S' w' cs x → f x = some r → Calls P fid (first ++ [Enc.val α cs] ++ cap).toArray w' (Ret [] w' S' (fun S' w' v => Leaf.rd1 S' w' v r)),
   fun hk h => ⟨h.1, fun hk' => h.2 (hk.trans hk')⟩⟩
def FnA2 {α γ β : Type} [Enc α] [Enc γ] [Leaf β] (P : Program) (fid : FuncId) (first cap : List Value) (f : α → γ → Option β) : Asrt :=
  ⟨fun S w => (∀ args w, (callFunc fid args).run P w = .ok (.enter fid args) w) ∧
    ∀ {S' : Nat → Prop} {w' : World}, Keep S S' w w' → (∀ b, S' b → b < w'.heap.size) → ∀ {cs ds : List Value} {x : α} {y : γ} {r : β}, Enc.rd S' w' cs x → Enc.rd S' w' ds y → f x y = some r → Calls P fid (first ++ [Enc.val α cs, Enc.val γ ds] ++ cap).toArray w' (Ret [] w' S' (fun S' w' v => Leaf.rd1 S' w' v r)),
   fun hk h => ⟨h.1, fun hk' => h.2 (hk.trans hk')⟩⟩
theorem bld_of {t : TypeId} {fs : Array Field} {pl : Array (Nat × Nat)} {z : List Value} {z0 : Value} (hz : ZeroT P t z0) (hzc : z0.cells = z.toArray) (hu : UndT P t (.struct fs)) (hp : ∀ w, (fs.mapM fun f => do pure (f.offset, ← sizeOf f.type) : Sem (Array (Nat × Nat))).run P w = .ok pl w) : BldT P t (pl[·]?) z := by
  intro parts cells w h
  simp only [Instr.build, Sem.run_bind, hz w, Result.andThen_ok, hu w, hp w, hzc]
  rw [h]
  rfl
theorem bld_arr {t e : TypeId} {n m : Nat} {z : List Value} {z0 : Value} (hz : ZeroT P t z0) (hzc : z0.cells = z.toArray) (hu : UndT P t (.array n e)) (hs : SzT P e m) : BldT P t (fun i => some (i * m, m)) z := by
  intro parts cells w h
  simp only [Instr.build, Sem.run_bind, hz w, Result.andThen_ok, hu w, hs w, hzc]
  rw [h]
  rfl
end steps
end Go.Proofs.YthdimlepjpnncaaGreat.Wk

/- A library for walks over any program: appends, new slices, sharing, calls by contract, loops, the end of a function. No statement of the seat is used here. -/
import Derived.Test.YtmlekplbmfengaaGreatLibC
namespace Go.Proofs.YtmlekplbmfengaaGreat.Wk
open Go Go.RowKit Go.Proofs.YtmlekplbmfengaaGreat.Sh
set_option linter.unusedSimpArgs false
set_option linter.unusedVariables false
section steps
variable {P : Program} {ops : Array Oper} {Q : Exit → Act → World → Prop} {rest : List Oper} {N : Nat} {L : Slots} {a : Act} {w : World} {fx : Fx} {S : Nat → Prop} {R : List Res} {E : List Asrt}
variable {ty : TypeId} {pos : String} {af : Array Edge} {g : Option (Nat × Bool)} {d : Nat}
/-- append of a slice whose cells are known -/
theorem w_append {t e : TypeId} {size bytes : Nat} {z : Value} {s x : Operand} {p : Option Addr} {n k : Nat} {cs : List Value} {pn : Option Addr} {m c : Nat} {news : List Value} (hs : Sl N L a) (hw : Wd fx S R E w) (ht : ElT P t e size bytes z)
    (i : Nat) (hr : R[i]? = some (.row p n k cs e size)) (hx : ev L s = some (.slice p n k)) (hy : ev L x = some (.slice pn m c))
    (hl : news.length = m * size) (hnone : pn = none → m = 0 ∧ c = 0) (hnews : ∀ ad, pn = some ad → (0 < m → ad.spot = none) ∧ CellsAt w ad.block ad.off news) (h1 : ∀ u ∈ news, u.oneCell' = true) (h63 : n + m ≤ maxLen) (hbytes : (n + m) * bytes ≤ 140737488355328)
    (hN : Nat.ble (d + 1) N = true) (hwt : Wanted ops L g)
    (K : ∀ p' k' a w', Sl N ((d, .slice p' (n + m) k') :: L) a → Wd fx S (R.set i (.row p' (n + m) k' (cs ++ news) e size)) E w' → wpList P ops Q rest a w') :
    wpList P ops Q (⟨some d, .call { callee := .builtin .append, args := #[s, x], argTypes := #[t, t] }, ty, pos, af, g⟩ :: rest) a w := by
  have hown := hw.ownAt i hr
  have hfin : ∀ p' k' w', (Builtin.append_ #[t, t] ty #[.slice p n k, .slice pn m c]).run P w = .ok (.slice p' (n + m) k') w' → (Res.row p' (n + m) k' (cs ++ news) e size).own w' → Grew w w' (p.map (·.block)) →
      (∀ b, p'.map (·.block) = some b → (p.map (·.block) = some b ∨ w.heap.size ≤ b) ∧ b < w'.heap.size) → wpList P ops Q (⟨some d, .call { callee := .builtin .append, args := #[s, x], argTypes := #[t, t] }, ty, pos, af, g⟩ :: rest) a w := by
    intro p' k' w' hrun ho hg hb
    refine st_do hs (v := .slice p' (n + m) k') (w' := w') (fun a h => ?_) hwt rfl hN fun a hs => K _ _ _ _ hs (hw.put i hr hg ho hb)
    simp [execOp, resolve, invoke, builtin, h _ _ hx, h _ _ hy, hrun]
  cases pn with
  | none =>
    obtain ⟨rfl, rfl⟩ := hnone rfl
    have hn : news = [] := List.eq_nil_of_length_eq_zero (by simpa using hl)
    subst hn
    refine hfin p k w (run_append_rowN ht hown) (by simpa using hown) ⟨⟨rfl, rfl, rfl, Nat.le_refl _, fun _ _ _ => rfl⟩, Nat.le_refl _⟩ fun b hb => ⟨.inl hb, (hw.at_ _ (List.mem_of_getElem? hr) b hb).2.1⟩
  | some ad =>
    obtain ⟨b, o, sp⟩ := ad
    obtain ⟨h2, h3⟩ := hnews _ rfl
    simp only at h2 h3
    by_cases hm0 : m = 0
    · have hn : news = [] := List.eq_nil_of_length_eq_zero (by rw [hl, hm0, Nat.zero_mul])
      subst hn
      obtain ⟨p', k', w', e1, e2, e3, e4⟩ := run_append_row (ty := ty) ht hown (ad := ⟨b, o, sp⟩) (m := m) (c := c) hl (fun j u hu => (by cases hu)) h1 h63 hbytes
      exact hfin p' k' w' e1 e2 e3 e4
    have h2 := h2 (by omega)
    subst h2
    obtain ⟨p', k', w', e1, e2, e3, e4⟩ := run_append_row (ty := ty) ht hown (ad := ⟨b, o, none⟩) (m := m) (c := c) hl (fun j u hu => by rw [addr_add]; exact h3 j u hu) h1 h63 hbytes
    exact hfin p' k' w' e1 e2 e3 e4
/-- the cells behind a slice that reads as xs -/
theorem RdSl.cells {α : Type} [Enc α] {p : Option Addr} {n k : Nat} {xs : List α} (h : RdSl S w p n k xs) :
    ∃ cs, RdL S w cs xs ∧ (∀ ad, p = some ad → (0 < n → ad.spot = none) ∧ CellsAt w ad.block ad.off cs) ∧ (p = none → n = 0 ∧ k = 0) := by
  obtain ⟨h1, h2, h3, h4⟩ := h
  cases p with
  | none =>
    have hk := h3 rfl
    have : xs = [] := List.eq_nil_of_length_eq_zero (by omega)
    subst this
    exact ⟨[], rfl, fun _ h => (by cases h), fun _ => ⟨by omega, hk⟩⟩
  | some a =>
    obtain ⟨h5, h6, h7⟩ := h4 a rfl
    suffices hh : ∀ (ys : List α) (o : Nat), (∀ i (hi : i < ys.length), ∃ cs, CellsAt w a.block (o + i * Enc.sz α) cs ∧ Enc.rd S w cs ys[i]) → ∃ cs, RdL S w cs ys ∧ CellsAt w a.block o cs by
      obtain ⟨cs, c1, c2⟩ := hh xs a.off h7
      exact ⟨cs, c1, fun ad he => (by cases he; exact ⟨h5, c2⟩), fun he => (by cases he)⟩
    intro ys
    induction ys with
    | nil => intro o _; exact ⟨[], rfl, fun j v hv => by cases hv⟩
    | cons y ys ih =>
      intro o hy
      obtain ⟨c0, a1, a2⟩ := hy 0 (by simp)
      simp only [Nat.zero_mul, Nat.add_zero, List.getElem_cons_zero] at a1 a2
      obtain ⟨cs, b1, b2⟩ := ih (o + Enc.sz α) (fun i hi => by
        obtain ⟨c, x1, x2⟩ := hy (i + 1) (by simpa using hi)
        refine ⟨c, ?_, by simpa using x2⟩
        rw [show o + Enc.sz α + i * Enc.sz α = o + (i + 1) * Enc.sz α by rw [Nat.succ_mul]; omega]
        exact x1)
      have hl := Enc.len a2
      refine ⟨c0 ++ cs, ⟨by rw [← hl, List.take_left]; exact a2, by rw [← hl, List.drop_left]; exact b1⟩, fun j v hv => ?_⟩
      rw [List.getElem?_append] at hv
      split at hv
      · exact a1 j v hv
      · have := b2 _ v hv
        rwa [show o + Enc.sz α + (j - c0.length) = o + j by omega] at this
/-- append of a shared slice -/
theorem w_appendE {α : Type} [Enc α] {t e : TypeId} {bytes : Nat} {z : Value} {s x : Operand} {p : Option Addr} {k : Nat} {cs : List Value} {pn : Option Addr} {c : Nat} {xs ys zs : List α} (hs : Sl N L a) (hw : Wd fx S R E w) (ht : ElT P t e (Enc.sz α) bytes z)
    (i : Nat) (hr : R[i]? = some (.row p xs.length k cs e (Enc.sz α))) (hx : ev L s = some (.slice p xs.length k)) (hy : ev L x = some (.slice pn ys.length c)) (jx : Nat) (hjx : E[jx]? = some (RowA cs xs)) (jy : Nat) (hjy : E[jy]? = some (SlA pn ys.length c ys))
    (hb : appM bytes xs ys = some zs) (hN : Nat.ble (d + 1) N = true) (hwt : Wanted ops L g)
    (K : ∀ p' k' cs' a w', Sl N ((d, .slice p' zs.length k') :: L) a → Wd fx S (R.set i (.row p' zs.length k' cs' e (Enc.sz α))) (RowA cs' zs :: E) w' → wpList P ops Q rest a w') :
    wpList P ops Q (⟨some d, .call { callee := .builtin .append, args := #[s, x], argTypes := #[t, t] }, ty, pos, af, g⟩ :: rest) a w := by
  have hX : RdL S w cs xs := hw.envAt jx hjx
  have hY : RdSl S w pn ys.length c ys := hw.envAt jy hjy
  obtain ⟨news, c1, c2, c3⟩ := hY.cells
  obtain ⟨hb2, rfl⟩ := appM_t hb
  have hA : RdL S w (cs ++ news) (xs ++ ys) := hX.append c1
  have hA' : (RowA (cs ++ news) (xs ++ ys)).p S w := hA
  refine w_append hs (hw.addE hA') ht i hr hx hy (news := news) c1.length (fun h => (c3 h)) c2 c1.one hb2.1 hb2.2 hN hwt fun p' k' a w' hs' hw' => ?_
  rw [← List.length_append] at hs' hw'
  exact K p' k' (cs ++ news) a w' hs' hw'
/-- append of a row of the call's own (a literal) -/
theorem w_appendR {α : Type} [Enc α] {t e : TypeId} {bytes : Nat} {z : Value} {s x : Operand} {p : Option Addr} {k : Nat} {cs : List Value} {pn : Option Addr} {c : Nat} {ds : List Value} {xs ys zs : List α} (hs : Sl N L a) (hw : Wd fx S R E w) (ht : ElT P t e (Enc.sz α) bytes z)
    (i : Nat) (hr : R[i]? = some (.row p xs.length k cs e (Enc.sz α))) (hx : ev L s = some (.slice p xs.length k)) (hy : ev L x = some (.slice pn ys.length c)) (jx : Nat) (hjx : E[jx]? = some (RowA cs xs)) (iy : Nat) (hry : R[iy]? = some (.row pn ys.length c ds e (Enc.sz α))) (jy : Nat) (hjy : E[jy]? = some (RowA ds ys))
    (hb : appM bytes xs ys = some zs) (hN : Nat.ble (d + 1) N = true) (hwt : Wanted ops L g)
    (K : ∀ p' k' cs' a w', Sl N ((d, .slice p' zs.length k') :: L) a → Wd fx S (R.set i (.row p' zs.length k' cs' e (Enc.sz α))) (RowA cs' zs :: E) w' → wpList P ops Q rest a w') :
    wpList P ops Q (⟨some d, .call { callee := .builtin .append, args := #[s, x], argTypes := #[t, t] }, ty, pos, af, g⟩ :: rest) a w := by
  have hX : RdL S w cs xs := hw.envAt jx hjx
  have hY : RdL S w ds ys := hw.envAt jy hjy
  obtain ⟨hb2, rfl⟩ := appM_t hb
  have hA : RdL S w (cs ++ ds) (xs ++ ys) := hX.append hY
  have hA' : (RowA (cs ++ ds) (xs ++ ys)).p S w := hA
  have ho := hw.ownAt iy hry
  refine w_append hs (hw.addE hA') ht i hr hx hy (news := ds) hY.length (fun h => ?_) (fun ad h => ?_) hY.one hb2.1 hb2.2 hN hwt fun p' k' a w' hs' hw' => ?_
  · subst h
    rcases ho.2 with ⟨h1, h2⟩ | ⟨b, cap, cur, h1, _⟩
    · simp only [Value.slice.injEq] at h1; exact ⟨h2, h1.2.2⟩
    · simp at h1
  · subst h
    rcases ho.2 with ⟨h1, h2⟩ | ⟨b, cap, cur, h1, _⟩
    · simp at h1
    · simp only [Value.slice.injEq, Option.some.injEq] at h1
      obtain ⟨rfl, _, rfl⟩ := h1
      exact ⟨fun _ => rfl, fun j v hv => by rw [Nat.zero_add]; exact row_cell ho hv⟩
  · rw [← List.length_append] at hs' hw'
    exact K p' k' (cs ++ ds) a w' hs' hw'
/-! ### building -/
def fillL (place : Nat → Option (Nat × Nat)) (cells : List Value) : List (Nat × Value) → Option (List Value)
  | [] => some cells
  | (i, v) :: r =>
    match place i with
    | none => none
    | some (off, size) =>
      bif Nat.beq v.cells.toList.length size && Nat.ble (off + v.cells.toList.length) cells.length then fillL place (cells.take off ++ v.cells.toList ++ cells.drop (off + v.cells.toList.length)) r else none
theorem foldl_put (off : Nat) : ∀ (vs : List Value) (i : Nat) (cs : Array Value), off + i + vs.length ≤ cs.size →
    (vs.zipIdx i).foldl (fun (cs : Array Value) (p : Value × Nat) => cs.setIfInBounds (off + p.2) p.1) cs = (cs.toList.take (off + i) ++ vs ++ cs.toList.drop (off + i + vs.length)).toArray
  | [], i, cs, _ => by simp
  | v :: vs, i, cs, h => by
    simp only [List.length_cons] at h
    simp only [List.zipIdx_cons, List.foldl_cons]
    rw [foldl_put off vs (i + 1) _ (by simp; omega)]
    apply Array.ext'
    simp only [Array.toList_setIfInBounds, List.length_cons]
    have hi : off + i < cs.toList.length := by simp; omega
    apply List.ext_getElem?
    intro j
    simp only [List.append_assoc, List.getElem?_append, List.length_take, List.length_set, List.getElem?_take, List.getElem?_set, List.getElem?_drop, List.length_cons]
    simp only [Array.length_toList] at hi ⊢
    by_cases h1 : j < off + i
    · simp [show j < off + (i + 1) by omega, h1, show ¬ off + i = j by omega, show j < min (off + (i + 1)) cs.size by omega, show j < min (off + i) cs.size by omega]
    · by_cases h2 : j = off + i
      · subst h2
        simp [show min (off + i) cs.size = off + i by omega, show off + i < off + (i + 1) by omega, show off + i < min (off + (i + 1)) cs.size by omega, hi]
      · have e1 : min (off + (i + 1)) cs.size = off + (i + 1) := by omega
        have e2 : min (off + i) cs.size = off + i := by omega
        rw [e1, e2, if_neg (by omega), if_neg h1]
        obtain ⟨q, rfl⟩ : ∃ q, j = off + i + (q + 1) := ⟨j - (off + i) - 1, by omega⟩
        simp only [show off + i + (q + 1) - (off + (i + 1)) = q by omega, show off + i + (q + 1) - (off + i) = q + 1 by omega]
        by_cases h3 : q < vs.length
        · rw [if_pos h3, if_pos (by omega)]; simp
        · rw [if_neg h3, if_neg (by omega), if_neg (by omega)]
          congr 1
          omega
theorem fill_list (place : Nat → Option (Nat × Nat)) : ∀ (parts : List (Nat × Value)) (cells res : List Value), fillL place cells parts = some res → Instr.fill place cells.toArray parts = some res.toArray
  | [], cells, res, h => by simp only [fillL, Option.some.injEq] at h; subst h; rfl
  | (i, v) :: r, cells, res, h => by
    simp only [fillL] at h
    simp only [Instr.fill]
    cases hp : place i with
    | none => rw [hp] at h; cases h
    | some q =>
      obtain ⟨off, size⟩ := q
      rw [hp] at h
      simp only at h ⊢
      cases hb : (Nat.beq v.cells.toList.length size && Nat.ble (off + v.cells.toList.length) cells.length) with
      | false => rw [hb] at h; cases h
      | true =>
        rw [hb, cond_true] at h
        rw [Bool.and_eq_true] at hb
        have h1 : v.cells.size = size := by simpa using Nat.eq_of_beq_eq_true hb.1
        have h2 : off + v.cells.size ≤ cells.length := by simpa using Nat.le_of_ble_eq_true hb.2
        have hc : (v.cells.size ≠ size || off + v.cells.size > cells.toArray.size) = false := by simp [h1]; omega
        simp only [hc, Bool.false_eq_true, if_false]
        have e := foldl_put off v.cells.toList 0 cells.toArray (by simp; omega)
        simp only [Nat.add_zero, List.toList_toArray] at e
        have e2 : v.cells.zipIdx.foldl (fun (cs : Array Value) (p : Value × Nat) => cs.setIfInBounds (off + p.2) p.1) cells.toArray = (cells.take off ++ v.cells.toList ++ cells.drop (off + v.cells.toList.length)).toArray := by
          rw [← e, ← Array.foldl_toList, Array.toList_zipIdx]
        refine Eq.trans (congrArg (fun c => Instr.fill _ c _) e2) ?_
        exact fill_list place r _ res h
/-- what 'build' makes of its parts: z are the zero's cells, pl the fields' places -/
def BldT (P : Program) (t : TypeId) (pl : Nat → Option (Nat × Nat)) (z : List Value) : Prop :=
  ∀ parts cells w, Instr.fill pl z.toArray parts = some cells → (Instr.build t parts.toArray).run P w = .ok (.agg cells) w
theorem y_build {dd : Option Tmp} {t : TypeId} {ps : Array (Nat × Operand)} {pl : Nat → Option (Nat × Nat)} {z : List Value} {vs : List (Nat × Value)} {cells : List Value} (hb : BldT P t pl z) (hv : ps.toList.map (fun q => (ev L q.2).map (fun v => (q.1, v))) = vs.map some) (hf : fillL pl z vs = some cells) :
    Yd P ⟨dd, .build t ps, ty, pos, af, g⟩ L w (.agg cells.toArray) := fun a h => by
  have e : ps.map (fun (i, x) => (i, a.eval x)) = vs.toArray := by
    apply Array.ext'
    simp only [Array.toList_map]
    generalize ps.toList = l at hv
    clear hf
    induction l generalizing vs with
    | nil => cases vs <;> simp_all
    | cons q l ih =>
      cases vs with
      | nil => simp at hv
      | cons v vs =>
        simp only [List.map_cons, List.cons.injEq] at hv
        have h2 := ih hv.2
        obtain ⟨h1, _⟩ := hv
        cases hq : ev L q.2 with
        | none => rw [hq] at h1; cases h1
        | some u =>
          rw [hq] at h1
          simp only [Option.map_some, Option.some.injEq] at h1
          simp [h _ _ hq, ← h1, h2]
  simp only [execOp, e, Sem.run_bind]
  rw [hb vs cells.toArray w (fill_list _ _ _ _ hf)]
  rfl
theorem fill_full (size : Nat) : ∀ (vs : List Value) (i : Nat) (cells : Array Value), cells.size = (i + vs.length) * size → (∀ v ∈ vs, v.cells.toList.length = size) →
    Instr.fill (fun i => some (i * size, size)) cells ((vs.zipIdx i).map (fun p => (p.2, p.1))) = some (cells.toList.take (i * size) ++ vs.flatMap (fun v => v.cells.toList)).toArray
  | [], i, cells, hl, _ => by
    simp only [List.zipIdx_nil, List.map_nil, Instr.fill, List.flatMap_nil, List.append_nil, Option.some.injEq]
    apply Array.ext'
    simp only [List.length_nil, Nat.add_zero] at hl
    rw [List.take_of_length_le (by simp; omega)]
  | v :: vs, i, cells, hl, hv => by
    have h1 : v.cells.size = size := by simpa using hv v (by simp)
    simp only [List.length_cons] at hl
    have hle : i * size + size ≤ cells.size := by
      rw [hl, ← Nat.succ_mul]; exact Nat.mul_le_mul_right _ (by omega)
    simp only [List.zipIdx_cons, List.map_cons, Instr.fill]
    have hc : (v.cells.size ≠ size || i * size + v.cells.size > cells.size) = false := by simp [h1]; omega
    simp only [hc]
    have e := foldl_put (i * size) v.cells.toList 0 cells (by simp; omega)
    simp only [Nat.add_zero] at e
    have e2 : v.cells.zipIdx.foldl (fun (cs : Array Value) (p : Value × Nat) => cs.setIfInBounds (i * size + p.2) p.1) cells = (cells.toList.take (i * size) ++ v.cells.toList ++ cells.toList.drop (i * size + v.cells.toList.length)).toArray := by
      rw [← e, ← Array.foldl_toList, Array.toList_zipIdx]
    have ih := fill_full size vs (i + 1) (cells.toList.take (i * size) ++ v.cells.toList ++ cells.toList.drop (i * size + v.cells.toList.length)).toArray (by
      simp only [List.size_toArray, List.length_append, List.length_take, List.length_drop, Array.length_toList, h1]
      rw [show i + 1 + vs.length = i + (vs.length + 1) by omega, ← hl]
      omega) (fun u hu => hv u (by simp [hu]))
    simp only [Bool.false_eq_true, if_false]
    refine Eq.trans (congrArg (fun c => Instr.fill _ c _) e2) (ih.trans ?_)
    congr 2
    have hlen : (cells.toList.take (i * size) ++ v.cells.toList).length = (i + 1) * size := by
      simp only [List.length_append, List.length_take, Array.length_toList, h1, Nat.succ_mul]; omega
    rw [List.toList_toArray, ← hlen, List.take_left]
    simp
/-- a slice literal -/
theorem w_buildSlice {α : Type} [Enc α] {t e : TypeId} {bytes m : Nat} {z : Value} {ps : Array (Nat × Operand)} {vs : List Value} {cs : List Value} {xs : List α} (hs : Sl N L a) (hw : Wd fx S R E w) (ht : ElT P t e (Enc.sz α) bytes z)
    (hv : ps.toList.map (fun q => (ev L q.2).map (fun v => (q.1, v))) = ((vs.zipIdx 0).map (fun p => (p.2, p.1))).map some) (hm : m = xs.length) (hl : vs.length = xs.length) (hsm : Nat.ble (m * Enc.sz α) 16777216 = true)
    (hc : vs.flatMap (fun v => v.cells.toList) = cs) (hz : vs.all (fun v => Nat.beq v.cells.toList.length (Enc.sz α)) = true) (hrd : RdL S w cs xs) (hN : Nat.ble (d + 1) N = true) (hwt : Wanted ops L g)
    (K : ∀ p a w', Sl N ((d, .slice p xs.length xs.length) :: L) a → Wd fx S (.row p xs.length xs.length cs e (Enc.sz α) :: R) (RowA cs xs :: E) w' → wpList P ops Q rest a w') :
    wpList P ops Q (⟨some d, .buildSlice t m ps, ty, pos, af, g⟩ :: rest) a w := by
  have hm' : m = vs.length := by rw [hm, hl]
  have hmx := hm
  obtain ⟨hu, ⟨i, hi, h1, h2, h3⟩, hzs, hpos⟩ := ht
  have hcl := hrd.length
  have hA' : (RowA cs xs).p S w := hrd
  have hsm' := Nat.le_of_ble_eq_true hsm
  have hlen : ∀ v ∈ vs, v.cells.toList.length = Enc.sz α := fun v hv => Nat.eq_of_beq_eq_true (List.all_eq_true.1 hz v hv)
  refine st_do hs (v := .slice (some ⟨w.heap.size, 0, none⟩) xs.length xs.length) (w' := w.alloc (.cells cs.toArray e)) (fun a h => ?_) hwt rfl hN fun a hs => ?_
  · have ee : ps.map (fun (i, x) => (i, a.eval x)) = ((vs.zipIdx 0).map (fun p => (p.2, p.1))).toArray := by
      apply Array.ext'
      simp only [Array.toList_map]
      generalize (vs.zipIdx 0).map (fun p => (p.2, p.1)) = r at hv
      generalize ps.toList = l at hv
      induction l generalizing r with
      | nil => cases r <;> simp_all
      | cons q l ih =>
        cases r with
        | nil => simp at hv
        | cons v r =>
          simp only [List.map_cons, List.cons.injEq] at hv
          have h2 := ih r hv.2
          obtain ⟨h1, _⟩ := hv
          cases hq : ev L q.2 with
          | none => rw [hq] at h1; cases h1
          | some u =>
            rw [hq] at h1
            simp only [Option.map_some, Option.some.injEq] at h1
            simp [h _ _ hq, ← h1, h2]
    have hf : ∀ c : Array Value, c.size = m * Enc.sz α → Instr.fill (fun i => some (i * Enc.sz α, Enc.sz α)) c ((vs.zipIdx 0).map (fun p => (p.2, p.1))) = some cs.toArray := fun c hcs => by
      have := fill_full (Enc.sz α) vs 0 c (by rw [hcs, Nat.zero_add, hm']) hlen
      rw [this, hc]; simp
    have n2 : ¬ (m * Enc.sz α > 2 ^ 24) := by omega
    have hsz : (sizeOf e).run P w = .ok (Enc.sz α) w := by simp [sizeOf, typeInfo, hi, h1]
    have hzv : (zeroValue e).run P w = .ok z w := by simp [zeroValue, typeInfo, hi, h3]
    have hthis := fun zc : Array Value => hf ((Array.range (m * Enc.sz α)).map (fun x => zc[x % zc.size]!)) (by simp)
    subst hmx
    by_cases h0 : xs.length * Enc.sz α = 0
    · simp only [execOp, ee, Instr.buildSlice, Sem.run_bind, run_underlying hu, Result.andThen_ok, hsz, if_neg n2, if_pos h0, hthis, newRow, run_newObj, Sem.run_pure, World.alloc_eq]
    · simp only [execOp, ee, Instr.buildSlice, Sem.run_bind, run_underlying hu, Result.andThen_ok, hsz, hzv, if_neg n2, if_neg h0, hthis, newRow, run_newObj, Sem.run_pure, World.alloc_eq]
  · refine K _ _ _ hs ((hw.addE hA').new (grown_alloc _ _ _) ⟨hcl, .inr ⟨w.heap.size, xs.length, cs.toArray, rfl, Nat.zero_le _, heap_alloc_new w _, Nat.le_refl _, ?_, by simpa using hcl, by rw [← hcl]; simp⟩⟩ (fun b hb => by simp only [Res.blk, Option.map_some, Option.some.injEq] at hb; subst hb; simp))
    have : xs.length ≤ m * Enc.sz α := by rw [hmx]; exact Nat.le_mul_of_pos_right _ hpos
    simp only [maxLen]
    omega
end steps
end Go.Proofs.YtmlekplbmfengaaGreat.Wk

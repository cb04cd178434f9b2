/- A library for walks over any program: variables that are no longer written (captured ones, arrays that are sliced); elements of arrays. No statement of the seat is used here. -/
import Derived.Test.YthdimlepjpnncaaGreatLibK
namespace Go.Proofs.YthdimlepjpnncaaGreat.Wk
open Go Go.RowKit Go.Proofs.YthdimlepjpnncaaGreat.Sh
set_option linter.unusedSimpArgs false
set_option linter.unusedVariables false

section frz
variable {P : Program} {L : Slots} {w : World} {fx : Fx} {S : Nat → Prop} {R : List Res} {E : List Asrt}
variable {ty : TypeId} {pos : String} {af : Array Edge} {g : Option (Nat × Bool)} {dd : Option Tmp}

/-- a variable of the call's own that is written no more: it becomes shared -/
theorem w_freeze (hw : Wd fx S R E w) (i : Nat) {b : Nat} {cs : List Value} {T : TypeId} (hr : R[i]? = some (.box b cs T)) : ∃ S', Wd fx S' (R.eraseIdx i) (CeA b 0 cs :: E) w := by
  have hm := List.mem_of_getElem? hr
  refine ⟨fun c => S c ∨ (Res.box b cs T).blk = some c, ?_⟩
  refine (hw.share i hr (fun c => S c ∨ (Res.box b cs T).blk = some c) (fun _ => Iff.rfl)).addE ?_
  exact ⟨.inr rfl, fun j v hv => by rw [Nat.zero_add]; exact cell_of_list (hw.own _ hm) hv⟩

theorem RdL.tk {α : Type} [Enc α] {S : Nat → Prop} {w : World} : ∀ {xs : List α} {cs : List Value}, RdL S w cs xs → ∀ m, RdL S w (cs.take (m * Enc.sz α)) (xs.take m)
  | [], cs, h, m => by
    have h0 : cs = [] := h
    subst h0
    simp only [List.take_nil]; rfl
  | x :: xs, cs, h, 0 => by simp only [Nat.zero_mul, List.take_zero]; rfl
  | x :: xs, cs, h, m + 1 => by
    have := RdL.tk h.2 m
    refine ⟨?_, ?_⟩
    · rw [List.take_take, Nat.min_eq_left (by rw [Nat.succ_mul]; omega)]; exact h.1
    · rw [List.drop_take, Nat.succ_mul, Nat.add_sub_cancel]; exact this
theorem RdL.dp {α : Type} [Enc α] {S : Nat → Prop} {w : World} : ∀ {xs : List α} {cs : List Value}, RdL S w cs xs → ∀ m, RdL S w (cs.drop (m * Enc.sz α)) (xs.drop m)
  | [], cs, h, m => by
    have h0 : cs = [] := h
    subst h0
    simp only [List.drop_nil]; rfl
  | x :: xs, cs, h, 0 => by simpa using h
  | x :: xs, cs, h, m + 1 => by
    have := RdL.dp h.2 m
    rw [List.drop_drop] at this
    simpa [Nat.succ_mul, Nat.add_comm] using this
/-- an array in such a variable, as a slice -/
theorem arr_sl {α : Type} [Enc α] {b o n : Nat} {cs : List Value} {xs : List α} (h : (CeA b 0 cs).p S w) (hn : n = xs.length) (hr : RdL S w ((cs.drop o).take (xs.length * Enc.sz α)) xs) : (SlA (some ⟨b, o, none⟩) xs.length n xs).p S w := by
  subst hn
  refine ⟨rfl, Nat.le_refl _, fun e => (by cases e), fun a ha => ?_⟩
  cases ha
  refine ⟨fun _ => rfl, fun _ => h.1, fun i hi => ⟨_, ?_, hr.get i hi⟩⟩
  intro j v hv
  have := h.2 (o + i * Enc.sz α + j) v (by
    rw [List.getElem?_take] at hv
    split at hv
    · rw [List.getElem?_drop, List.getElem?_take] at hv
      split at hv
      · rw [List.getElem?_drop] at hv
        rw [← hv]; congr 1; omega
      · cases hv
    · cases hv)
  simpa [Nat.add_assoc] using this

theorem y_sliceArr {t e : TypeId} {x : Operand} {b o n sz : Nat} (hu : UndT P t (.array n e)) (hsz : SzT P e sz) (hx : ev L x = some (.pointer (some ⟨b, o, none⟩))) (hn : Nat.beq n 0 = false) :
    Yd P ⟨dd, .slice t x none none none, ty, pos, af, g⟩ L w (.slice (some ⟨b, o, none⟩) n n) := fun a h => by
  have hn' : n ≠ 0 := Nat.ne_of_beq_eq_false hn
  simp [execOp, h _ _ hx, Instr.sliceAt, Instr.sureAddr, hu, hsz, Instr.sliceBounds, addr_add]

/-- an element of an array's value -/
theorem y_idxA {α : Type} [Enc α] {t e : TypeId} {n : Nat} {x i : Operand} {cs es : List Value} {xs : List α} {y : α} {v : Value} {kk : IntKind} {j : Int} (hu : UndT P t (.array n e)) (hsz : SzT P e (Enc.sz α))
    (hp : (AggT P e false ∧ es = [v]) ∨ (AggT P e true ∧ v = .agg es.toArray)) (hx : ev L x = some (.agg cs.toArray)) (hi : ev L i = some (.int kk j)) (hl : xs.length = n) (hrd : ∀ S w, RdL S w cs xs) (h : ix xs j = some y)
    (hv : ∀ S w c, Enc.rd S w c y → c = es) : Yd P ⟨dd, .index t x i, ty, pos, af, g⟩ L w v := fun a ha => by
  obtain ⟨h0, h1, h2⟩ := ix_t h
  obtain ⟨hlt, he⟩ := List.getElem?_eq_some_iff.1 h2
  have hR := hrd (fun _ => False) w
  have hg := hR.get j.toNat hlt
  rw [he] at hg
  have hes := hv _ _ _ hg
  have hcl := hR.length
  have hjn : 0 ≤ j ∧ j < (n : Int) := by omega
  rcases hp with ⟨ha', rfl⟩ | ⟨ha', rfl⟩
  · have h3 : cs[j.toNat * Enc.sz α]? = some v := by
      have : ((cs.drop (j.toNat * Enc.sz α)).take (Enc.sz α))[0]? = some v := by rw [hes]; rfl
      rw [List.getElem?_take] at this
      split at this
      · rw [List.getElem?_drop] at this; simpa using this
      · cases this
    have h3' : cs.toArray[j.toNat * Enc.sz α]? = some v := by simpa using h3
    simp [execOp, ha _ _ hx, ha _ _ hi, Instr.index, asIntOf, hu, hsz, hjn.1, hjn.2, run_part1 ha' h3']
  · have hln : es.length = Enc.sz α := by rw [← hes, List.length_take, List.length_drop, hcl]; have := mul_add_le (sz := Enc.sz α) hlt; omega
    have h3 : cs.toArray.extract (j.toNat * Enc.sz α) (j.toNat * Enc.sz α + Enc.sz α) = es.toArray := by
      apply Array.ext'
      rw [Array.toList_extract]
      simp only [List.extract_eq_take_drop, Nat.add_sub_cancel_left]
      rw [hes]
    simp [execOp, ha _ _ hx, ha _ _ hi, Instr.index, asIntOf, hu, hsz, hjn.1, hjn.2, run_partA ha' hsz h3]
theorem noOuts {X : List Nat} {w w' : World} {S' : Nat → Prop} : Outs X w S' w' [] := ⟨fun r hr => (by cases hr), fun r hr => (by cases hr), List.Pairwise.nil⟩
/-- a length that is known -/
def LenA {α : Type} (n : Nat) (xs : List α) : Asrt := ⟨fun _ _ => n = xs.length, fun _ h => h⟩
theorem len_set {α : Type} {n : Nat} {xs ys : List α} {i : Int} {v : α} {w' : World} {S' : Nat → Prop} (h1 : (LenA n xs).p S w) (h : setM xs i v = some ys) : (LenA n ys).p S' w' := by
  show n = ys.length
  rw [setM_len h]; exact h1
theorem len_rfl {α : Type} {xs : List α} : (LenA xs.length xs).p S w := rfl

section full
variable {ops : Array Oper} {Q : Exit → Act → World → Prop} {rest : List Oper} {N : Nat} {a : Act} {d : Nat}
/-- a store of a whole element -/
theorem w_storeF {α : Type} [Enc α] {T : TypeId} {x y : Operand} {b k q : Nat} {v : Value} {cs : List Value} {T' : TypeId} {xs xs' : List α} {idx : Int} {x' : α} (hs : Sl N L a) (hw : Wd fx S R E w) (i : Nat) (hr : R[i]? = some (.row (some ⟨b, 0, none⟩) xs.length k cs T' (Enc.sz α))) (ie : Nat) (hE : E[ie]? = some (RowA cs xs))
    (hq : 0 + idx.toNat * Enc.sz α = q) (hx : ev L x = some (.pointer (some ⟨b, q, none⟩))) (hy : ev L y = some v) (hsz : SzT P T (Enc.sz α)) (hm : v.cells.toList.length = Enc.sz α)
    (hset : setM xs idx x' = some xs') (hrd : Enc.rd S w v.cells.toList x') (hwt : Wanted ops L g)
    (K : ∀ cs' a w, Sl N L a → Wd fx S (R.set i (.row (some ⟨b, 0, none⟩) xs'.length k cs' T' (Enc.sz α))) (RowA cs' xs' :: E) w → wpList P ops Q rest a w) : wpList P ops Q (⟨none, .store T x y, ty, pos, af, g⟩ :: rest) a w := by
  refine w_storeR (f := 0) (m := Enc.sz α) hs hw i hr ie hE hq hx hy hsz hm (List.all_eq_true.2 (Enc.one hrd)) (Nat.ble_eq_true_of_le (by omega)) hset (fun es he => ?_) hwt K
  have hl : es.length ≤ Enc.sz α := by rw [← he]; exact List.length_take_le _ _
  rw [List.take_zero, List.nil_append, List.drop_eq_nil_of_le (by omega), List.append_nil]
  exact hrd

/-- a part of a row of the call's own -/
theorem row_sub {α : Type} [Enc α] {p : Option Addr} {k : Nat} {cs : List Value} {T : TypeId} {xs ys : List α} {l h' : Int} (hw : Wd fx S R E w) (i : Nat) (hr : R[i]? = some (.row p xs.length k cs T (Enc.sz α))) (h : subM xs l h' = some ys) :
    ∃ p' k', SubOf p xs.length k l h' (Enc.sz α) p' ys.length k' := by
  obtain ⟨⟨h0, h1, h2⟩, rfl⟩ := subM_t h
  have ho := hw.ownAt i hr
  have hnk : xs.length ≤ k := by
    rcases ho.2 with ⟨e0, e1⟩ | ⟨b, cap, cur, e0, _, g1, g2, g3, g4, g5⟩
    · omega
    · simp only [Value.slice.injEq] at e0; omega
  exact ⟨_, _, h0, h1, by omega, by simp; omega, rfl, rfl⟩

/-- where a part of a row lies -/
theorem sub_at_row {p p' : Option Addr} {n k n' k' sz b : Nat} {l h' : Int} (hs : SubOf p n k l h' sz p' n' k') (hp : p = some ⟨b, 0, none⟩) (h0 : 0 < n') : p' = some ⟨b, l.toNat * sz, none⟩ := by
  obtain ⟨h1, h2, h3, rfl, rfl, rfl⟩ := hs
  rw [if_neg (by omega), hp]
  simp only [Option.map_some, addr_add, Nat.zero_add]

theorem copy_len {α : Type} {xs ys : List α} {lo : Int} {hi : Int} (h0 : 0 ≤ lo) (h1 : lo ≤ hi) (h2 : hi ≤ xs.length) : (copyM xs lo hi ys).length = xs.length := by
  unfold copyM
  simp only [List.length_append, List.length_take, List.length_drop]
  omega
theorem len_copy {α : Type} {n : Nat} {xs ys vs : List α} {lo hi : Int} {w' : World} {S' : Nat → Prop} (h1 : (LenA n xs).p S w) (h : subM xs lo hi = some vs) : (LenA n (copyM xs lo hi ys)).p S' w' := by
  obtain ⟨⟨a0, a1, a2⟩, _⟩ := subM_t h
  show n = _
  rw [copy_len a0 a1 a2]; exact h1

theorem rd_put {α : Type} [Enc α] {cs ds : List Value} {xs ys : List α} {q m : Nat} (hx : RdL S w cs xs) (hy : RdL S w ds ys) (hm : ys.length = m) (hq : q + m ≤ xs.length) :
    RdL S w (cs.take (q * Enc.sz α) ++ ds ++ cs.drop ((q + m) * Enc.sz α)) (xs.take q ++ ys ++ xs.drop (q + m)) := by
  subst hm
  refine RdL.append (RdL.append (RdL.tk hx _) hy) (RdL.dp hx _)

theorem store_row {w1 : World} {b k n q : Nat} {cs vs : List Value} {T : TypeId} {sz : Nat} (ho : (Res.row (some ⟨b, 0, none⟩) n k cs T sz).own w) (hfit : q + vs.length ≤ cs.length) (h1 : ∀ v ∈ vs, v.oneCell' = true) :
    ∃ w', (storeCells ⟨b, q, none⟩ vs).run P w = .ok () w' ∧ Grew w w' (some b) ∧ (Res.row (some ⟨b, 0, none⟩) n k (cs.take q ++ vs ++ cs.drop (q + vs.length)) T sz).own w' ∧ b < w'.heap.size := by
  obtain ⟨cur, c1, c2, c3, c4, c5, c6⟩ := row_cells ho
  have hcur : cs.length ≤ cur.size := by
    have : cs.length ≤ cur.toList.length := by rw [← c2]; exact List.length_take_le' _ _
    simpa using this
  have hrun := run_storeCells_at P b q T vs 0 cur w c1 (by omega) h1
  rw [Nat.add_zero] at hrun
  have hlen : (cs.take q ++ vs ++ cs.drop (q + vs.length)).length = cs.length := by
    simp only [List.length_append, List.length_take, List.length_drop]; omega
  refine ⟨_, hrun, grown_setRow _ _ _, ⟨by rw [hlen]; exact c3, .inr ⟨b, k, _, rfl, Nat.zero_le _, setRow_heap w b _ _ _ _ c1, c5, c6, ?_, ?_⟩⟩, by simpa using (Array.getElem?_eq_some_iff.1 c1).1⟩
  · simp only [List.size_toArray, List.length_append, List.length_take, List.length_drop, Array.length_toList]
    omega
  · rw [List.toList_toArray]
    have e1 : cs.take q = cur.toList.take q := by rw [← c2, List.take_take]; congr 1; omega
    have e2 : cs.drop (q + vs.length) = (cur.toList.drop (q + vs.length)).take (n * sz - (q + vs.length)) := by rw [← c2, List.drop_take]
    rw [e1, e2, List.take_append, List.take_of_length_le (by simp only [List.length_append, List.length_take, Array.length_toList]; omega)]
    congr 2
    simp only [List.length_append, List.length_take, Array.length_toList]
    omega

/-- copy into a part of a row of the call's own: the source's cells are known -/
theorem w_copyC {α : Type} [Enc α] {t ts e : TypeId} {x y : Operand} {p p1 : Option Addr} {k k1 : Nat} {cs : List Value} {xs vs : List α} {lo hi : Int} {ps : Option Addr} {ms ks : Nat} {ys : List α} {ds : List Value} (hs : Sl N L a) (hw : Wd fx S R E w)
    (i : Nat) (hr : R[i]? = some (.row p xs.length k cs e (Enc.sz α))) (ie : Nat) (hE : E[ie]? = some (RowA cs xs)) (hu : UndT P t (.slice e)) (hus : UndT P ts (.slice e)) (hsz : SzT P e (Enc.sz α)) (hpos : 0 < Enc.sz α)
    (hsub : subM xs lo hi = some vs) (hso : SubOf p xs.length k lo hi (Enc.sz α) p1 vs.length k1) (hx : ev L x = some (.slice p1 vs.length k1)) (hy : ev L y = some (.slice ps ms ks)) (hms : ys.length = ms)
    (hY : RdL S w ds ys) (hnone : ps = none → ys.length = 0) (hcell : ∀ ad, ps = some ad → (0 < ys.length → ad.spot = none) ∧ CellsAt w ad.block ad.off ds) (hN : Nat.ble (d + 1) N = true) (hwt : Wanted ops L g)
    (K : ∀ cs' a w', Sl N ((d, .int .i64 (min ys.length vs.length : Nat)) :: L) a → Wd fx S (R.set i (.row p (copyM xs lo hi ys).length k cs' e (Enc.sz α))) (RowA cs' (copyM xs lo hi ys) :: E) w' → wpList P ops Q rest a w') :
    wpList P ops Q (⟨some d, .call { callee := .builtin .copy, args := #[x, y], argTypes := #[t, ts] }, ty, pos, af, g⟩ :: rest) a w := by
  subst hms
  obtain ⟨⟨h0, h1, h2⟩, hvs⟩ := subM_t hsub
  have hvl : vs.length = hi.toNat - lo.toNat := by rw [hvs]; simp; omega
  have hX : RdL S w cs xs := hw.envAt ie hE
  have hXl := hX.length
  have hYl := hY.length
  obtain ⟨m, hm⟩ : ∃ m, min ys.length vs.length = m := ⟨_, rfl⟩
  -- what is written
  have hYt := RdL.tk hY m
  have hcm : copyM xs lo hi ys = xs.take lo.toNat ++ ys.take m ++ xs.drop (lo.toNat + m) := by
    unfold copyM
    have e1 : ys.take (hi.toNat - lo.toNat) = ys.take m := by
      rw [List.take_eq_take_iff]; omega
    have e2 : min ys.length (hi.toNat - lo.toNat) = m := by omega
    rw [e1, e2]
  have hrd := rd_put (q := lo.toNat) (m := m) hX hYt (by rw [List.length_take]; omega) (by omega)
  rw [← hcm] at hrd
  have hlen : (copyM xs lo hi ys).length = xs.length := copy_len h0 h1 h2
  by_cases hm0 : m = 0
  · have hrun : (Builtin.copy_ #[t, ts] ty #[.slice p1 vs.length k1, .slice ps ys.length ks]).run P w = .ok (.int .i64 (min ys.length vs.length : Nat)) w := by
      have hmin : Nat.min ys.length vs.length = 0 := by show min ys.length vs.length = 0; omega
      have hmin' : min ys.length vs.length = 0 := by omega
      cases p1 <;> cases ps <;> simp [Builtin.copy_, hu w, hsz w, Builtin.lenOf, Builtin.firstCells, loadCells, loadCellsFrom, storeCells, goInt, hmin, hmin']
    refine st_do hs (v := .int .i64 (min ys.length vs.length : Nat)) (w' := w) (fun a h => ?_) hwt rfl hN fun a hs => ?_
    · simp [execOp, resolve, invoke, builtin, h _ _ hx, h _ _ hy, hrun]
    · have ecm : copyM xs lo hi ys = xs := by rw [hcm, hm0]; simp
      rw [ecm] at K
      have hset : R.set i (.row p xs.length k cs e (Enc.sz α)) = R := by
        apply List.ext_getElem?; intro j
        rw [List.getElem?_set]
        split
        · next hij => subst hij; split <;> simp_all
        · rfl
      have := K cs a w hs
      rw [hset] at this
      exact this (hw.addE (e := RowA cs xs) hX)
  · -- something is written
    obtain ⟨b, rfl⟩ := row_some (hw.ownAt i hr) (by omega)
    have hp1 := sub_at_row hso rfl (by omega)
    subst hp1
    cases ps with
    | none => exact absurd (hnone rfl) (by omega)
    | some ad =>
      obtain ⟨b2, o2, sp⟩ := ad
      obtain ⟨hsp, hc⟩ := hcell _ rfl
      simp only at hsp hc
      have hsp := hsp (by omega)
      subst hsp
      have hdl : (ds.take (m * Enc.sz α)).length = m * Enc.sz α := by
        rw [List.length_take, hYl]
        have : m * Enc.sz α ≤ ys.length * Enc.sz α := Nat.mul_le_mul_right _ (by omega)
        omega
      have hload : (loadCells ⟨b2, o2, none⟩ (m * Enc.sz α)).run P w = .ok (ds.take (m * Enc.sz α)).toArray w := by
        have := run_loadCells_list (P := P) w ⟨b2, o2, none⟩ (ds.take (m * Enc.sz α)) (fun j v hv => by
          rw [addr_add]
          refine hc j v ?_
          rw [List.getElem?_take] at hv
          split at hv
          · exact hv
          · cases hv)
        rw [hdl] at this
        exact this
      have hfit : lo.toNat * Enc.sz α + (ds.take (m * Enc.sz α)).length ≤ cs.length := by
        rw [hdl, hXl, ← Nat.add_mul]
        exact Nat.mul_le_mul_right _ (by omega)
      obtain ⟨w', s1, s2, s3, s4⟩ := store_row (P := P) (w1 := w) (q := lo.toNat * Enc.sz α) (vs := ds.take (m * Enc.sz α)) (hw.ownAt i hr) hfit (fun v hv => hY.one v (List.mem_of_mem_take hv))
      rw [hdl] at s3
      have e1 : lo.toNat * Enc.sz α + m * Enc.sz α = (lo.toNat + m) * Enc.sz α := by rw [Nat.add_mul]
      rw [e1] at s3
      have hmin : Nat.min ys.length vs.length = m := hm
      have hmin' : min ys.length vs.length = m := hm
      have hrun : (Builtin.copy_ #[t, ts] ty #[.slice (some ⟨b, lo.toNat * Enc.sz α, none⟩) vs.length k1, .slice (some ⟨b2, o2, none⟩) ys.length ks]).run P w = .ok (.int .i64 (min ys.length vs.length : Nat)) w' := by
        simp only [Builtin.copy_, List.getElem?_toArray, List.getElem?_cons_zero, List.getElem?_cons_succ, Sem.run_bind, hu w, Result.andThen_ok, Builtin.lenOf, Sem.run_pure, hsz w, hmin, Builtin.firstCells, hload, hm0, if_false]
        simp [s1, goInt, hmin']
      refine st_do hs (v := .int .i64 (min ys.length vs.length : Nat)) (w' := w') (fun a h => ?_) hwt rfl hN fun a hs => ?_
      · simp [execOp, resolve, invoke, builtin, h _ _ hx, h _ _ hy, hrun]
      · rw [← hlen] at s3
        exact K _ a w' hs ((hw.addE (e := RowA (cs.take (lo.toNat * Enc.sz α) ++ ds.take (m * Enc.sz α) ++ cs.drop ((lo.toNat + m) * Enc.sz α)) (copyM xs lo hi ys)) hrd).put i hr s2 s3 (fun c hc => ⟨.inl hc, by simp only [Res.blk, Option.map_some, Option.some.injEq] at hc; subst hc; exact s4⟩))
theorem sub_full {α : Type} (xs : List α) : subM xs 0 (xs.length : Int) = some xs := by
  unfold subM
  rw [if_pos (by omega)]
  simp
theorem row_full {α : Type} [Enc α] {p : Option Addr} {k : Nat} {cs : List Value} {T : TypeId} {xs : List α} (hw : Wd fx S R E w) (i : Nat) (hr : R[i]? = some (.row p xs.length k cs T (Enc.sz α))) : SubOf p xs.length k 0 (xs.length : Int) (Enc.sz α) p xs.length k := by
  have ho := hw.ownAt i hr
  have hnk : xs.length ≤ k := by
    rcases ho.2 with ⟨e0, e1⟩ | ⟨b, cap, cur, e0, _, g1, g2, g3, g4, g5⟩
    · omega
    · simp only [Value.slice.injEq] at e0; omega
  refine ⟨by omega, by omega, by omega, by simp, by simp, ?_⟩
  rw [Int.toNat_zero, Nat.zero_mul]
  split
  · rfl
  · cases p <;> simp [Addr.add]
theorem copy_lenS {α : Type} {xs vs ys l : List α} {lo hi : Int} (hsub : subM xs lo hi = some vs) (he : some (copyM xs lo hi ys) = some l) : l.length = xs.length := by
  obtain ⟨⟨a0, a1, a2⟩, _⟩ := subM_t hsub
  rw [← Option.some.inj he, copy_len a0 a1 a2]
/-- what a copy reads -/
def Src {α : Type} [Enc α] (S : Nat → Prop) (w : World) (p : Option Addr) (ds : List Value) (ys : List α) : Prop :=
  RdL S w ds ys ∧ (p = none → ys.length = 0) ∧ ∀ ad, p = some ad → (0 < ys.length → ad.spot = none) ∧ CellsAt w ad.block ad.off ds
theorem src_sl {α : Type} [Enc α] {p : Option Addr} {k : Nat} {ys : List α} (h : (SlA p ys.length k ys).p S w) : ∃ ds, Src S w p ds ys := by
  obtain ⟨cs, c1, c2, c3⟩ := RdSl.cells h
  exact ⟨cs, c1, fun e => (c3 e).1, c2⟩
theorem src_row {α : Type} [Enc α] {p : Option Addr} {k : Nat} {cs : List Value} {T : TypeId} {ys : List α} (ho : (Res.row p ys.length k cs T (Enc.sz α)).own w) (hR : (RowA cs ys).p S w) : ∃ ds, Src S w p ds ys := by
  refine ⟨cs, hR, fun e => ?_, fun ad e => ?_⟩
  · subst e
    rcases ho.2 with ⟨_, h0⟩ | ⟨b, cap, cur, h1, _⟩
    · exact h0
    · simp at h1
  · subst e
    rcases ho.2 with ⟨h1, h2⟩ | ⟨b, cap, cur, h1, _⟩
    · simp at h1
    · simp only [Value.slice.injEq, Option.some.injEq] at h1
      obtain ⟨rfl, _, rfl⟩ := h1
      exact ⟨fun _ => rfl, fun j v hv => by rw [Nat.zero_add]; exact row_cell ho hv⟩
theorem src_vw {α : Type} [Enc α] {p p' : Option Addr} {k k' : Nat} {cs : List Value} {T : TypeId} {xs ys : List α} {lo hi : Int} (ho : (Res.row p xs.length k cs T (Enc.sz α)).own w) (hR : (RowA cs xs).p S w) (hsub : subM xs lo hi = some ys) (hso : SubOf p xs.length k lo hi (Enc.sz α) p' ys.length k') : ∃ ds, Src S w p' ds ys := by
  obtain ⟨⟨h0, h1, h2⟩, hys⟩ := subM_t hsub
  have hyl : ys.length = hi.toNat - lo.toNat := by rw [hys]; simp; omega
  have hR' : RdL S w cs xs := hR
  have hrd : RdL S w ((cs.take (hi.toNat * Enc.sz α)).drop (lo.toNat * Enc.sz α)) ys := by rw [hys]; exact RdL.dp (RdL.tk hR' _) _
  by_cases hz : ys.length = 0
  · have hn : ys = [] := List.eq_nil_of_length_eq_zero hz
    refine ⟨_, hrd, fun _ => hz, fun ad e => ⟨fun hh => absurd hh (by omega), ?_⟩⟩
    · intro j v hv
      have := hrd.length
      rw [hz, Nat.zero_mul] at this
      rw [List.eq_nil_of_length_eq_zero this] at hv
      cases hv
  · obtain ⟨b, rfl⟩ := row_some ho (by omega)
    have hp := sub_at_row hso rfl (by omega)
    subst hp
    refine ⟨_, hrd, fun e => (by cases e), fun ad e => ?_⟩
    cases e
    refine ⟨fun _ => rfl, fun j v hv => ?_⟩
    rw [List.getElem?_drop, List.getElem?_take] at hv
    split at hv
    · exact row_cell ho hv
    · cases hv
theorem w_makeCap {α : Type} [Enc α] {t e : TypeId} {bytes : Nat} {z : Value} {x y : Operand} {kl kc : IntKind} {c : Int} {u : Unit} (hs : Sl N L a) (hw : Wd fx S R E w) (ht : ElT P t e (Enc.sz α) bytes z)
    (hx : ev L x = some (.int kl 0)) (hy : ev L y = some (.int kc c)) (hm : capM bytes c = some u) (hN : Nat.ble (d + 1) N = true) (hwt : Wanted ops L g)
    (K : ∀ p k a w', Sl N ((d, .slice p ([] : List α).length k) :: L) a → Wd fx S (.row p ([] : List α).length k [] e (Enc.sz α) :: R) (RowA (α := α) [] [] :: E) w' → wpList P ops Q rest a w') :
    wpList P ops Q (⟨some d, .makeSlice t x y, ty, pos, af, g⟩ :: rest) a w := by
  unfold capM at hm
  split at hm
  case isFalse => cases hm
  rename_i hb
  obtain ⟨h0, h1, h2⟩ := hb
  obtain ⟨hu, ⟨i, hi, e1, e2, e3⟩, hzs, hpos⟩ := ht
  have hrun := run_make (P := P) w t e i z hu hi e3 kl kc 0 c (Int.le_refl _) h0 (by rw [e2]; omega) h1
  have hA : (RowA (α := α) [] []).p S w := rfl
  refine st_do hs (v := .slice (some ⟨w.heap.size, 0, none⟩) 0 c.toNat) (w' := w.alloc (.cells (madeCells z.cells (c.toNat * i.size)) e)) (fun a h => ?_) hwt rfl hN fun a hs => ?_
  · simp [execOp, h _ _ hx, h _ _ hy, hrun]
  · refine K _ _ _ _ hs ((hw.addE hA).new (grown_alloc _ _ _) ⟨by simp, .inr ⟨w.heap.size, c.toNat, madeCells z.cells (c.toNat * i.size), by simp, Nat.zero_le _, heap_alloc_new w _, by simp, ?_, by rw [size_madeCells, e1], by simp⟩⟩ (fun b hb => by simp only [Res.blk, Option.map_some, Option.some.injEq] at hb; subst hb; simp))
    simp only [maxLen]; omega
theorem w_makeC {α : Type} [Enc α] {t e : TypeId} {bytes : Nat} {z : Value} {z0 : α} {x y : Operand} {kl kc : IntKind} {n c : Int} {xs : List α} (hs : Sl N L a) (hw : Wd fx S R E w) (ht : ElT P t e (Enc.sz α) bytes z) (hz : Enc.rd S w z.cells.toList z0)
    (hx : ev L x = some (.int kl n)) (hy : ev L y = some (.int kc c)) (hm : makeCM bytes z0 n c = some xs) (hN : Nat.ble (d + 1) N = true) (hwt : Wanted ops L g)
    (K : ∀ p k cs a w', Sl N ((d, .slice p xs.length k) :: L) a → Wd fx S (.row p xs.length k cs e (Enc.sz α) :: R) (RowA cs xs :: E) w' → wpList P ops Q rest a w') :
    wpList P ops Q (⟨some d, .makeSlice t x y, ty, pos, af, g⟩ :: rest) a w := by
  unfold makeCM at hm
  split at hm
  case isFalse => cases hm
  rename_i hb
  obtain ⟨h0, hnc, h1, h2⟩ := hb
  obtain rfl := Option.some.inj hm
  obtain ⟨hu, ⟨i, hi, e1, e2, e3⟩, hzs, hpos⟩ := ht
  have hrun := run_make (P := P) w t e i z hu hi e3 kl kc n c h0 hnc (by rw [e2]; omega) h1
  have hrd := madeCells_rd hz n.toNat
  have hcut : (madeCells z.cells (c.toNat * Enc.sz α)).toList.take (n.toNat * Enc.sz α) = (madeCells z.cells (n.toNat * Enc.sz α)).toList := by
    have hle : n.toNat * Enc.sz α ≤ c.toNat * Enc.sz α := Nat.mul_le_mul_right _ (by omega)
    apply List.ext_getElem?
    intro j
    simp only [madeCells, List.getElem?_take, Array.toList_map, Array.toList_range, List.getElem?_map]
    by_cases hj : j < n.toNat * Enc.sz α
    · rw [if_pos hj, List.getElem?_range (by omega), List.getElem?_range hj]
    · rw [if_neg hj, List.getElem?_eq_none (by simp; omega)]; rfl
  have hA : (RowA (madeCells z.cells (n.toNat * Enc.sz α)).toList (List.replicate n.toNat z0)).p S w := hrd
  refine st_do hs (v := .slice (some ⟨w.heap.size, 0, none⟩) n.toNat c.toNat) (w' := w.alloc (.cells (madeCells z.cells (c.toNat * i.size)) e)) (fun a h => ?_) hwt rfl hN fun a hs => ?_
  · simp [execOp, h _ _ hx, h _ _ hy, hrun]
  · have hl : (List.replicate n.toNat z0).length = n.toNat := by simp
    rw [← hl] at hs
    refine K _ _ _ _ _ hs ((hw.addE hA).new (grown_alloc _ _ _) ⟨by simp [size_madeCells], .inr ⟨w.heap.size, c.toNat, madeCells z.cells (c.toNat * i.size), by simp, Nat.zero_le _, heap_alloc_new w _, by simp; omega, ?_, by rw [size_madeCells, e1], ?_⟩⟩ (fun b hb => by simp only [Res.blk, Option.map_some, Option.some.injEq] at hb; subst hb; simp))
    · simp only [maxLen]; omega
    · rw [e1, hl]; exact hcut
/-- a literal slice, its list and its cells by a name -/
theorem w_litSliceO {α : Type} [Enc α] {t e : TypeId} {bytes m : Nat} {z : Value} {ps : Array (Nat × Operand)} {vs : List Value} {cs : List Value} {xs ys : List α} (hs : Sl N L a) (hw : Wd fx S R E w) (ht : ElT P t e (Enc.sz α) bytes z)
    (hv : ps.toList.map (fun q => (ev L q.2).map (fun v => (q.1, v))) = ((vs.zipIdx 0).map (fun p => (p.2, p.1))).map some) (hm : m = xs.length) (hl : vs.length = xs.length) (hsm : Nat.ble (m * Enc.sz α) 16777216 = true)
    (hc : vs.flatMap (fun v => v.cells.toList) = cs) (hz : vs.all (fun v => Nat.beq v.cells.toList.length (Enc.sz α)) = true) (hrd : RdL S w cs xs) (hN : Nat.ble (d + 1) N = true) (hwt : Wanted ops L g) (h0 : Nat.ble 1 xs.length = true)
    (hx : some xs = some ys)
    (K : ∀ b c a w', Sl N ((d, .slice (some ⟨b, 0, none⟩) ys.length ys.length) :: L) a → Wd fx S (.row (some ⟨b, 0, none⟩) ys.length ys.length c e (Enc.sz α) :: R) (RowA c ys :: E) w' → wpList P ops Q rest a w') :
    wpList P ops Q (⟨some d, .buildSlice t m ps, ty, pos, af, g⟩ :: rest) a w := by
  cases Option.some.inj hx
  exact w_litSlice hs hw ht hv hm hl hsm hc hz hrd hN hwt h0 (fun b a w' hs hw => K b cs a w' hs hw)

/-- an operation without a slot whose value is let go -/
theorem st_doN {o : Oper} {v : Value} {w' : World} (hs : Sl N L a) (hy : Do P o L w (.value v) w') (hw : Wanted ops L o.guard) (hd : o.dst = none)
    (k : ∀ a, Sl N L a → wpList P ops Q rest a w') : wpList P ops Q (o :: rest) a w := by
  unfold wpList
  rw [if_pos (hw.out hs)]
  refine .inl ?_
  unfold Oper.wp
  rw [hy a (fun x u => hs.ev)]
  rw [Oper.upon_value, hd]
  exact k _ hs

/-- a part of a row of the call's own is set to zero -/
theorem w_clear {α : Type} [Enc α] {t e : TypeId} {bytes : Nat} {z : Value} {z0 : α} {x : Operand} {p p1 : Option Addr} {k k1 : Nat} {cs : List Value} {xs vs : List α} {lo hi : Int} (hs : Sl N L a) (hw : Wd fx S R E w)
    (i : Nat) (hr : R[i]? = some (.row p xs.length k cs e (Enc.sz α))) (ie : Nat) (hE : E[ie]? = some (RowA cs xs)) (ht : ElT P t e (Enc.sz α) bytes z) (hz : Enc.rd S w z.cells.toList z0)
    (hsub : subM xs lo hi = some vs) (hso : SubOf p xs.length k lo hi (Enc.sz α) p1 vs.length k1) (hx : ev L x = some (.slice p1 vs.length k1)) (hwt : Wanted ops L g)
    (K : ∀ cs' a w', Sl N L a → Wd fx S (R.set i (.row p (copyM xs lo hi (List.replicate vs.length z0)).length k cs' e (Enc.sz α))) (RowA cs' (copyM xs lo hi (List.replicate vs.length z0)) :: E) w' → wpList P ops Q rest a w') :
    wpList P ops Q (⟨none, .call { callee := .builtin .clear, args := #[x], argTypes := #[t] }, ty, pos, af, g⟩ :: rest) a w := by
  obtain ⟨hu, ⟨ti, hti, e1, e2, e3⟩, hzs, hpos⟩ := ht
  obtain ⟨⟨h0, h1, h2⟩, hvs⟩ := subM_t hsub
  have hvl : vs.length = hi.toNat - lo.toNat := by rw [hvs]; simp; omega
  have hX : RdL S w cs xs := hw.envAt ie hE
  have hXl := hX.length
  have hY := madeCells_rd (S := S) (w := w) hz vs.length
  have hYl := hY.length
  rw [List.length_replicate] at hYl
  have hcm : copyM xs lo hi (List.replicate vs.length z0) = xs.take lo.toNat ++ List.replicate vs.length z0 ++ xs.drop (lo.toNat + vs.length) := by
    unfold copyM
    have e1 : (List.replicate vs.length z0).take (hi.toNat - lo.toNat) = List.replicate vs.length z0 := List.take_of_length_le (by simp; omega)
    have e2 : min (List.replicate vs.length z0).length (hi.toNat - lo.toNat) = vs.length := by simp; omega
    rw [e1, e2]
  have hrd := rd_put (q := lo.toNat) (m := vs.length) hX hY (by simp) (by omega)
  rw [← hcm] at hrd
  have hlen : (copyM xs lo hi (List.replicate vs.length z0)).length = xs.length := copy_len h0 h1 h2
  by_cases hm0 : vs.length = 0
  · have hrun : (Builtin.clear_ #[t] ty #[.slice p1 vs.length k1]).run P w = .ok (.tuple #[]) w := by
      rw [hm0]
      cases p1 <;> simp [Builtin.clear_, run_underlying hu]
    refine st_doN hs (v := .tuple #[]) (w' := w) (fun a h => ?_) hwt rfl fun a hs => ?_
    · simp [execOp, resolve, invoke, builtin, h _ _ hx, hrun]
    · have ecm : copyM xs lo hi (List.replicate vs.length z0) = xs := by rw [hcm, hm0]; simp
      rw [ecm] at K
      have hset : R.set i (.row p xs.length k cs e (Enc.sz α)) = R := by
        apply List.ext_getElem?; intro j
        rw [List.getElem?_set]
        split
        · next hij => subst hij; split <;> simp_all
        · rfl
      have := K cs a w hs
      rw [hset] at this
      exact this (hw.addE (e := RowA cs xs) hX)
  · obtain ⟨b, rfl⟩ := row_some (hw.ownAt i hr) (by omega)
    have hp1 := sub_at_row hso rfl (by omega)
    subst hp1
    have hfit : lo.toNat * Enc.sz α + (madeCells z.cells (vs.length * Enc.sz α)).toList.length ≤ cs.length := by
      rw [hYl, hXl, ← Nat.add_mul]
      exact Nat.mul_le_mul_right _ (by omega)
    obtain ⟨w', s1, s2, s3, s4⟩ := store_row (P := P) (w1 := w) (q := lo.toNat * Enc.sz α) (vs := (madeCells z.cells (vs.length * Enc.sz α)).toList) (hw.ownAt i hr) hfit (fun v hv => hY.one v hv)
    rw [hYl] at s3
    have e1' : lo.toNat * Enc.sz α + vs.length * Enc.sz α = (lo.toNat + vs.length) * Enc.sz α := by rw [Nat.add_mul]
    rw [e1'] at s3
    have ezc : Builtin.zeroCells z.cells vs.length = madeCells z.cells (vs.length * Enc.sz α) := by
      unfold Builtin.zeroCells madeCells; rw [hzs]
    have hzv : (zeroValue e).run P w = .ok z w := by simp [zeroValue, typeInfo, hti, e3]
    have hrun : (Builtin.clear_ #[t] ty #[.slice (some ⟨b, lo.toNat * Enc.sz α, none⟩) vs.length k1]).run P w = .ok (.tuple #[]) w' := by
      obtain ⟨m, hm⟩ : ∃ m, vs.length = m + 1 := ⟨vs.length - 1, by omega⟩
      rw [← ezc] at s1
      rw [hm] at s1 ⊢
      simp [Builtin.clear_, run_underlying hu, hzv, s1]
    refine st_doN hs (v := .tuple #[]) (w' := w') (fun a h => ?_) hwt rfl fun a hs => ?_
    · simp [execOp, resolve, invoke, builtin, h _ _ hx, hrun]
    · rw [← hlen] at s3
      exact K _ a w' hs ((hw.addE (e := RowA (cs.take (lo.toNat * Enc.sz α) ++ (madeCells z.cells (vs.length * Enc.sz α)).toList ++ cs.drop ((lo.toNat + vs.length) * Enc.sz α)) (copyM xs lo hi (List.replicate vs.length z0))) hrd).put i hr s2 s3 (fun c hc => ⟨.inl hc, by simp only [Res.blk, Option.map_some, Option.some.injEq] at hc; subst hc; exact s4⟩))

theorem do_callT {dst : Option Tmp} {x : Operand} {f : FuncId} {args : Array Operand} {at_ : Array TypeId} {vs : List Value} (hc : ∀ args w, (callFunc f args).run P w = .ok (.enter f args) w) (hx : ev L x = some (.func (.func f) #[] #[])) (ha : args.toList.map (ev L) = vs.map some) :
    Do P ⟨dst, .call { callee := .value x, args := args, argTypes := at_ }, ty, pos, af, g⟩ L w (.enter f vs.toArray) w := by
  have := do_callF (P := P) (L := L) (w := w) (dst := dst) (at_ := at_) (ty := ty) (pos := pos) (af := af) (g := g) (first := []) (cap := []) hc hx ha
  simpa using this

end full
end frz
end Go.Proofs.YthdimlepjpnncaaGreat.Wk

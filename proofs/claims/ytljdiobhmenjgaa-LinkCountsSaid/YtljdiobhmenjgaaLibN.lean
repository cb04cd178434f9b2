/- A library for walks over any program: an element put into a row of the call's own (slices.Insert). No statement of the seat is used here. -/
import Derived.Test.YtljdiobhmenjgaaLibL
import Derived.Lib.AppendZerosOnto
import Derived.Lib.Overlaps
import Derived.Laws.Externs
namespace Go.Proofs.Ytljdiobhmenjgaa.Wk
open Go Go.RowKit Go.Proofs.Ytljdiobhmenjgaa.Sh
set_option linter.unusedSimpArgs false
set_option linter.unusedVariables false

/-- a fact that no world turns -/
def PuA (φ : Prop) : Asrt := ⟨fun _ _ => φ, fun _ h => h⟩
/-- the cells c1 are those of cs and further ones -/
def Gr (cs c1 : List Value) : Prop := ∃ jk, c1 = cs ++ jk
/-- the cells c2 are those of cs, with m elements of some cells at place i -/
def Mid (cs c2 : List Value) (i m sz : Nat) : Prop := ∃ mid : List Value, mid.length = m * sz ∧ c2 = cs.take (i * sz) ++ mid ++ cs.drop (i * sz)

section steps
variable {P : Program} {ops : Array Oper} {Q : Exit → Act → World → Prop} {rest : List Oper} {N : Nat} {L : Slots} {a : Act} {w : World} {fx : Fx} {S : Nat → Prop} {R : List Res} {E : List Asrt}
variable {ty : TypeId} {pos : String} {af : Array Edge} {g : Option (Nat × Bool)} {d : Nat}

theorem row_nk {p : Option Addr} {n k : Nat} {cs : List Value} {T : TypeId} {sz : Nat} (ho : (Res.row p n k cs T sz).own w) : n ≤ k := by
  rcases ho.2 with ⟨e0, e1⟩ | ⟨b, cap, cur, e0, _, g1, g2, g3, g4, g5⟩
  · omega
  · simp only [Value.slice.injEq] at e0; omega
/-- the first elements of a row, as a value -/
theorem row_pre {α : Type} [Enc α] {p : Option Addr} {k : Nat} {cs : List Value} {T : TypeId} {xs ys : List α} {h' : Int} (hw : Wd fx S R E w) (i : Nat) (hr : R[i]? = some (.row p xs.length k cs T (Enc.sz α))) (hs : subM xs 0 h' = some ys) :
    SubOf p xs.length k 0 h' (Enc.sz α) p ys.length k := by
  obtain ⟨⟨h0, h1, h2⟩, he⟩ := subM_t hs
  have hnk := row_nk (hw.ownAt i hr)
  refine ⟨by omega, by omega, by omega, by rw [he]; simp; omega, by simp, ?_⟩
  rw [Int.toNat_zero, Nat.zero_mul]
  split
  · rfl
  · cases p <;> simp [Addr.add]

theorem w_appendGrow {α : Type} [Enc α] {t e ti : TypeId} {bytes : Nat} {z : Value} {z0 : α} {s x : Operand} {ki kx : IntKind} {p : Option Addr} {k : Nat} {cs : List Value} {xs l ys : List α} {j c : Int} (hs : Sl N L a) (hw : Wd fx S R E w)
    (ir : Nat) (hr : R[ir]? = some (.row p xs.length k cs e (Enc.sz α))) (ie : Nat) (hE : E[ie]? = some (RowA cs xs)) (ht : ElT P t e (Enc.sz α) bytes z) (hz : Enc.rd S w z.cells.toList z0) (hti : P.underlying ti = some (.int ki))
    (hsub : subM xs 0 j = some l) (hx : ev L s = some (.slice p l.length k)) (hy : ev L x = some (.int kx c)) (hm : appZ bytes z0 l c = some ys) (hg : (k : Int) < l.length + c) (hN : Nat.ble (d + 1) N = true) (hwt : Wanted ops L g)
    (K : ∀ p' k' cs' a w', Sl N ((d, .slice p' ys.length k') :: L) a → Wd fx S (.row p' ys.length k' cs' e (Enc.sz α) :: R) (RowA cs' ys :: E) w' → wpList P ops Q rest a w') :
    wpList P ops Q (⟨some d, .call { callee := .builtin .append, args := #[s, x], argTypes := #[t, ti] }, ty, pos, af, g⟩ :: rest) a w := by
  obtain ⟨⟨h0, h1, h2⟩, rfl⟩ := appZ_t hm
  obtain ⟨⟨g0, g1, g2⟩, hl⟩ := subM_t hsub
  obtain ⟨hu, ⟨i, hi, e1, e2, e3⟩, hzs, hpos⟩ := ht
  simp only [Int.toNat_zero, List.drop_zero] at hl
  have ho := hw.ownAt ir hr
  have hX : RdL S w cs xs := hw.envAt ie hE
  have hLr : RdL S w (cs.take (l.length * Enc.sz α)) l := by
    have hlen : l.length = j.toNat := by rw [hl]; simp; omega
    rw [hlen, hl]
    exact RdL.tk hX _
  have hLl := hLr.length
  obtain ⟨cn, rfl⟩ : ∃ cn : Nat, c = cn := ⟨c.toNat, by omega⟩
  have hnb : (l.length + cn) * bytes ≤ 140737488355328 := by
    have : (((l.length + cn) * bytes : Nat) : Int) = ((l.length : Int) + cn) * bytes := by push_cast; rfl
    omega
  have hcb : cn * bytes ≤ 281474976710656 := Nat.le_trans (Nat.le_trans (Nat.mul_le_mul_right _ (Nat.le_add_left _ _)) hnb) (by decide)
  have hold : (Builtin.firstCells i.size l.length (.slice p l.length k)).run P w.drew = .ok (cs.take (l.length * Enc.sz α)).toArray w.drew := by
    by_cases hl0 : l.length = 0
    · have : cs.take (l.length * Enc.sz α) = [] := by rw [hl0]; simp
      rw [this, hl0]
      cases p <;> simp [Builtin.firstCells, loadCells, loadCellsFrom]
    · obtain ⟨b, rfl⟩ := row_some ho (by have : l.length ≤ xs.length := by rw [hl, List.length_take]; omega
                                         omega)
      rw [e1]
      refine run_firstCells_some (P := P) w.drew (Enc.sz α) l.length ⟨b, 0, none⟩ l.length k _ hLl (fun q u hq => ?_)
      rw [addr_add, Nat.zero_add]
      show w.cell? _ = _
      rw [List.getElem?_take] at hq
      split at hq
      · exact row_cell ho hq
      · cases hq
  have hrun := Lib.run_append_grow_zeros (P := P) w t ti ty e i z kx ki hu hti hi e3 p l.length k _ hold cn (by omega) (by rw [e1]; exact hpos) (by omega) (by omega) (by rw [e2]; exact hcb) (by rw [e2]; exact growslice_fits (by omega) hnb)
  have hrep : (List.replicate ((cn : Int)).toNat z0) = List.replicate cn z0 := by simp
  rw [hrep] at K
  have hYl : (l ++ List.replicate cn z0).length = l.length + cn := by simp
  rw [hYl] at K
  have hzr := madeCells_rd (S := S) (w := w) hz cn
  have ezc : Builtin.zeroCells z.cells cn = madeCells z.cells (cn * Enc.sz α) := by
    unfold Builtin.zeroCells madeCells; rw [hzs]
  have hrd : RdL S w (cs.take (l.length * Enc.sz α) ++ (madeCells z.cells (cn * Enc.sz α)).toList) (l ++ List.replicate cn z0) := hLr.append hzr
  have hrl := hrd.length
  rw [hYl] at hrl
  have hge := grownCap_ge w (l.length + cn) k e
  have hcm := grownCap_le_maxLen w (l.length + cn) k e (by simp only [maxLen]; omega)
  refine st_do hs (v := .slice (some ⟨w.heap.size, 0, none⟩) (l.length + cn) (grownCap w (l.length + cn) k e)) (w' := w.drew.alloc (.cells ((cs.take (l.length * Enc.sz α)).toArray ++ Builtin.zeroCells z.cells cn ++ Builtin.zeroCells z.cells (grownCap w (l.length + cn) k e - (l.length + cn))) e)) (fun a h => ?_) hwt rfl hN fun a hs => ?_
  · simp [execOp, resolve, invoke, builtin, h _ _ hx, h _ _ hy, hrun]
  · refine K _ _ (cs.take (l.length * Enc.sz α) ++ (madeCells z.cells (cn * Enc.sz α)).toList) a _ hs ((hw.addE (e := RowA (cs.take (l.length * Enc.sz α) ++ (madeCells z.cells (cn * Enc.sz α)).toList) (l ++ List.replicate cn z0)) hrd).new ⟨⟨rfl, rfl, rfl, by simp, fun b hb _ => heap_alloc_old w.drew _ b hb⟩, Nat.le_succ _⟩ ⟨hrl, .inr ⟨w.heap.size, _, _, rfl, Nat.zero_le _, heap_alloc_new w.drew _, hge, hcm, ?_, ?_⟩⟩ (fun b hb => by simp only [Res.blk, Option.map_some, Option.some.injEq] at hb; subst hb; simp))
    · simp only [Array.size_append, List.size_toArray, size_zeroCells, hzs, hLl, ← Nat.add_mul]
      congr 1
      omega
    · simp only [Array.toList_append, List.append_assoc, ezc]
      rw [← List.append_assoc, ← hrl]
      exact List.take_left

/-- a row of the call's own up to a place within its room -/
theorem Wd.growRow (hw : Wd fx S R E w) (i : Nat) {p : Option Addr} {n k n' : Nat} {cs : List Value} {T : TypeId} {sz : Nat} (hr : R[i]? = some (.row p n k cs T sz)) (h1 : n ≤ n') (h2 : n' ≤ k) :
    ∃ c1, Wd fx S (R.set i (.row p n' k c1 T sz)) (PuA (Gr cs c1) :: E) w := by
  have ho := hw.ownAt i hr
  have key : ∃ c1, (Res.row p n' k c1 T sz).own w ∧ Gr cs c1 := by
    obtain ⟨hl, ho⟩ := ho
    rcases ho with ⟨e0, e1⟩ | ⟨b, cap, cur, e0, g0, g1, g2, g3, g4, g5⟩
    · simp only [Value.slice.injEq] at e0
      obtain ⟨rfl, rfl, rfl⟩ := e0
      have : n' = 0 := by omega
      subst this
      exact ⟨cs, ⟨hl, .inl ⟨rfl, rfl⟩⟩, [], by simp⟩
    · simp only [Value.slice.injEq] at e0
      obtain ⟨rfl, _, rfl⟩ := e0
      have hle : n * sz ≤ n' * sz := Nat.mul_le_mul_right _ h1
      have hle2 : n' * sz ≤ k * sz := Nat.mul_le_mul_right _ h2
      refine ⟨cur.toList.take (n' * sz), ⟨by rw [List.length_take, Array.length_toList, g4]; omega, .inr ⟨b, k, cur, rfl, g0, g1, h2, g3, g4, rfl⟩⟩, (cur.toList.take (n' * sz)).drop (n * sz), ?_⟩
      rw [← g5]
      have : cur.toList.take (n * sz) = (cur.toList.take (n' * sz)).take (n * sz) := by rw [List.take_take]; congr 1; omega
      rw [this, List.take_append_drop]
  obtain ⟨c1, hc, hg⟩ := key
  have hm := List.mem_of_getElem? hr
  exact ⟨c1, (hw.addE (e := PuA (Gr cs c1)) hg).put i hr (w' := w) ⟨⟨rfl, rfl, rfl, Nat.le_refl _, fun _ _ _ => rfl⟩, Nat.le_refl _⟩ hc (fun b hb => ⟨.inl hb, (hw.at_ _ hm b hb).2.1⟩)⟩

/-- what lies apart does not overlap -/
theorem y_overlaps {tS tR e : TypeId} {x y z : Operand} {f : FuncId} {p1 p2 p3 : Option Addr} {n1 k1 n2 k2 n3 k3 sz : Nat} {c1 c2 : List Value} {T : TypeId} {lo hi : Int} (i j : Nat) (hw : Wd fx S R E w) (h1 : R[i]? = some (.row p1 n1 k1 c1 T sz)) (h2 : R[j]? = some (.row p2 n2 k2 c2 T sz)) (hij : Nat.beq i j = false)
    (hso : SubOf p2 n2 k2 lo hi sz p3 n3 k3) (ht : P.underlying tS = some (.slice e)) (hsz : SzT P e sz) (hpos : 0 < sz) (h10 : 0 < n1) (h30 : 0 < n3)
    (hc : ∀ args w, (callFunc f args).run P w = ((Extern.SlicesOverlaps.overlaps #[tS, tS] #[tR] args).run P w).andThen fun v w' => .ok (.value v) w')
    (hz : ev L z = some (.func (.func f) #[] #[])) (hx : ev L x = some (.slice p1 n1 k1)) (hy : ev L y = some (.slice p3 n3 k3)) :
    Yd P ⟨some d, .call { callee := .value z, args := #[x, y], argTypes := #[tS, tS] }, ty, pos, af, g⟩ L w (.bool false) := fun a h => by
  have o1 := hw.ownAt i h1
  have o2 := hw.ownAt j h2
  have hn2 : 0 < n2 ∨ 0 < k2 := by obtain ⟨e1, e2, e3, e4, _, _⟩ := hso; omega
  have key : (Extern.SlicesOverlaps.overlaps #[tS, tS] #[tR] #[.slice p1 n1 k1, .slice p3 n3 k3]).run P w = .ok (.bool false) w := by
    rcases o1.2 with ⟨q0, q1⟩ | ⟨b1, cap1, cur1, q0, _, q1, q2, q3, q4, _⟩
    · omega
    rcases o2.2 with ⟨r0, _⟩ | ⟨b2, cap2, cur2, r0, _, r1, r2, r3, r4, _⟩
    · simp only [Value.slice.injEq] at r0
      omega
    simp only [Value.slice.injEq] at q0 r0
    obtain ⟨rfl, _, rfl⟩ := q0
    obtain ⟨rfl, _, rfl⟩ := r0
    obtain ⟨e1, e2, e3, e4, _, e6⟩ := hso
    have hp3 : p3 = some ⟨b2, lo.toNat * sz, none⟩ := by
      rw [e6, if_neg (by omega)]
      simp only [Option.map_some, addr_add, Nat.zero_add]
    subst hp3
    have hne : b1 ≠ b2 := by
      have hp := List.pairwise_iff_getElem.1 hw.apart
      obtain ⟨a1, a2⟩ := List.getElem?_eq_some_iff.1 h1
      obtain ⟨a3, a4⟩ := List.getElem?_eq_some_iff.1 h2
      intro e
      subst e
      rcases Nat.lt_or_gt_of_ne (Nat.ne_of_beq_eq_false hij) with hlt | hlt
      · exact hp i j a1 a3 hlt b1 (by rw [a2]; rfl) (by rw [a4]; rfl)
      · exact hp j i a3 a1 hlt b1 (by rw [a4]; rfl) (by rw [a2]; rfl)
    exact Lib.run_overlaps_apart (P := P) w tS tR e ht sz hsz ⟨b1, 0, none⟩ ⟨b2, lo.toNat * sz, none⟩ n1 k1 n3 k3 hne T T cur1.size cur2.size (by simp [World.shape?, q1]) (by simp [World.shape?, r1])
      (by rw [r4]; exact Nat.ne_of_gt (Nat.mul_pos (by omega) hpos)) (by simp [World.frozen?, q1]) (by simp [World.frozen?, q1])
  have e : #[a.eval x, a.eval y] = #[Value.slice p1 n1 k1, Value.slice p3 n3 k3] := by rw [h _ _ hx, h _ _ hy]
  simp [execOp, resolve, h _ _ hz, Deferred.ofValue, invoke, h _ _ hx, h _ _ hy, hc, key, Result.andThen]

/-- the elements behind a place move on -/
theorem w_shift {α : Type} [Enc α] {t ts e : TypeId} {x y : Operand} {p p1 p2 : Option Addr} {k k1 k2 n1 n2 rl ni mi : Nat} {cs c1 : List Value} {xs : List α} {lo1 lo2 hi1 hi2 : Int} (hs : Sl N L a) (hw : Wd fx S R E w)
    (i : Nat) (hr : R[i]? = some (.row p rl k c1 e (Enc.sz α))) (ig : Nat) (hG : E[ig]? = some (PuA (Gr cs c1))) (ie : Nat) (hE : E[ie]? = some (RowA cs xs)) (hu : UndT P t (.slice e)) (hus : UndT P ts (.slice e)) (hsz : SzT P e (Enc.sz α)) (hpos : 0 < Enc.sz α)
    (hrl : rl = xs.length + mi) (hin : ni < xs.length) (hso1 : SubOf p rl k lo1 hi1 (Enc.sz α) p1 n1 k1) (hl1 : lo1.toNat = ni + mi) (hn1 : n1 = xs.length - ni) (hso2 : SubOf p rl k lo2 hi2 (Enc.sz α) p2 n2 k2) (hl2 : lo2.toNat = ni) (hn2 : n2 = xs.length + mi - ni)
    (hx : ev L x = some (.slice p1 n1 k1)) (hy : ev L y = some (.slice p2 n2 k2)) (hN : Nat.ble (d + 1) N = true) (hwt : Wanted ops L g)
    (K : ∀ c2 a w', Sl N ((d, .int .i64 (min n2 n1 : Nat)) :: L) a → Wd fx S (R.set i (.row p rl k c2 e (Enc.sz α))) (PuA (Mid cs c2 ni mi (Enc.sz α)) :: E) w' → wpList P ops Q rest a w') :
    wpList P ops Q (⟨some d, .call { callee := .builtin .copy, args := #[x, y], argTypes := #[t, ts] }, ty, pos, af, g⟩ :: rest) a w := by
  have ho := hw.ownAt i hr
  have hX : RdL S w cs xs := hw.envAt ie hE
  obtain ⟨jk, rfl⟩ : Gr cs c1 := hw.envAt ig hG
  have hcl := hX.length
  have hcl1 : (cs ++ jk).length = rl * Enc.sz α := ho.1
  obtain ⟨b, rfl⟩ := row_some ho (by omega)
  have hp1 := sub_at_row hso1 rfl (by omega)
  have hp2 := sub_at_row hso2 rfl (by omega)
  subst hp1 hp2
  rw [hl1] at hx
  rw [hl2] at hy
  have hdl : (cs.drop (ni * Enc.sz α)).length = (xs.length - ni) * Enc.sz α := by rw [List.length_drop, hcl, Nat.sub_mul]
  have hmin : Nat.min n2 n1 = xs.length - ni := by show min n2 n1 = _; omega
  have hmin' : min n2 n1 = xs.length - ni := hmin
  have hm0 : ¬ (xs.length - ni = 0) := by omega
  have hload : (loadCells ⟨b, ni * Enc.sz α, none⟩ ((xs.length - ni) * Enc.sz α)).run P w = .ok (cs.drop (ni * Enc.sz α)).toArray w := by
    have := run_loadCells_list (P := P) w ⟨b, ni * Enc.sz α, none⟩ (cs.drop (ni * Enc.sz α)) (fun j v hv => by
      rw [addr_add]
      rw [List.getElem?_drop] at hv
      refine row_cell ho ?_
      have hlt : ni * Enc.sz α + j < cs.length := (List.getElem?_eq_some_iff.1 hv).1
      rw [List.getElem?_append_left hlt]
      exact hv)
    rw [hdl] at this
    exact this
  have e0 : (ni + mi) * Enc.sz α + (xs.length - ni) * Enc.sz α = rl * Enc.sz α := by
    rw [← Nat.add_mul]; congr 1; omega
  have hfit : (ni + mi) * Enc.sz α + (cs.drop (ni * Enc.sz α)).length ≤ (cs ++ jk).length := by rw [hdl, hcl1]; omega
  obtain ⟨w', s1, s2, s3, s4⟩ := store_row (P := P) (w1 := w) (q := (ni + mi) * Enc.sz α) (vs := cs.drop (ni * Enc.sz α)) ho hfit (fun v hv => hX.one v (List.mem_of_mem_drop hv))
  have hrun : (Builtin.copy_ #[t, ts] ty #[.slice (some ⟨b, (ni + mi) * Enc.sz α, none⟩) n1 k1, .slice (some ⟨b, ni * Enc.sz α, none⟩) n2 k2]).run P w = .ok (.int .i64 (min n2 n1 : Nat)) w' := by
    simp only [Builtin.copy_, List.getElem?_toArray, List.getElem?_cons_zero, List.getElem?_cons_succ, Sem.run_bind, hu w, Result.andThen_ok, Builtin.lenOf, Sem.run_pure, hsz w, hmin, Builtin.firstCells, hload, hm0, if_false]
    simp [s1, goInt, hmin']
  have hle : ni * Enc.sz α ≤ cs.length := by rw [hcl]; exact Nat.mul_le_mul_right _ (by omega)
  have hmid : Mid cs ((cs ++ jk).take ((ni + mi) * Enc.sz α) ++ cs.drop (ni * Enc.sz α) ++ (cs ++ jk).drop ((ni + mi) * Enc.sz α + (cs.drop (ni * Enc.sz α)).length)) ni mi (Enc.sz α) := by
    refine ⟨((cs ++ jk).take ((ni + mi) * Enc.sz α)).drop (ni * Enc.sz α), ?_, ?_⟩
    · have h2 : (ni + mi) * Enc.sz α ≤ (cs ++ jk).length := by rw [hcl1]; exact Nat.mul_le_mul_right _ (by omega)
      rw [List.length_drop, List.length_take, Nat.min_eq_left h2, Nat.add_mul]; omega
    · have e5 : (cs ++ jk).drop ((ni + mi) * Enc.sz α + (cs.drop (ni * Enc.sz α)).length) = [] := List.drop_eq_nil_of_le (by rw [hdl, hcl1]; omega)
      rw [e5, List.append_nil]
      congr 1
      have e3 : (cs ++ jk).take (ni * Enc.sz α) = cs.take (ni * Enc.sz α) := List.take_append_of_le_length hle
      have e4 : ((cs ++ jk).take ((ni + mi) * Enc.sz α)).take (ni * Enc.sz α) = cs.take (ni * Enc.sz α) := by
        rw [List.take_take, Nat.min_eq_left (Nat.mul_le_mul_right _ (Nat.le_add_right _ _)), e3]
      rw [← e4, List.take_append_drop]
  refine st_do hs (v := .int .i64 (min n2 n1 : Nat)) (w' := w') (fun a h => ?_) hwt rfl hN fun a hs => ?_
  · simp [execOp, resolve, invoke, builtin, h _ _ hx, h _ _ hy, hrun]
  · exact K _ a w' hs ((hw.addE (e := PuA (Mid cs _ ni mi (Enc.sz α))) hmid).put i hr s2 s3 (fun c hc => ⟨.inl hc, by simp only [Res.blk, Option.map_some, Option.some.injEq] at hc; subst hc; exact s4⟩))

/-- the elements that are put in -/
theorem w_fill {α : Type} [Enc α] {t ts e : TypeId} {x y : Operand} {p p1 ps : Option Addr} {k k1 n1 rl ni mi ms ks : Nat} {cs c2 ds : List Value} {xs vs r : List α} {lo1 hi1 : Int} (hs : Sl N L a) (hw : Wd fx S R E w)
    (i : Nat) (hr : R[i]? = some (.row p rl k c2 e (Enc.sz α))) (ig : Nat) (hG : E[ig]? = some (PuA (Mid cs c2 ni mi (Enc.sz α)))) (ie : Nat) (hE : E[ie]? = some (RowA cs xs)) (hu : UndT P t (.slice e)) (hus : UndT P ts (.slice e)) (hsz : SzT P e (Enc.sz α)) (hpos : 0 < Enc.sz α)
    (hrl : rl = xs.length + mi) (hin : ni < xs.length) (hmi : 0 < mi) (hso1 : SubOf p rl k lo1 hi1 (Enc.sz α) p1 n1 k1) (hl1 : lo1.toNat = ni) (hn1 : n1 = xs.length + mi - ni)
    (hvs : vs.length = mi) (hms : ms = mi) (hY : RdL S w ds vs) (hnone : ps = none → vs.length = 0) (hcell : ∀ ad, ps = some ad → (0 < vs.length → ad.spot = none) ∧ CellsAt w ad.block ad.off ds)
    (hrr : r = xs.take ni ++ vs ++ xs.drop ni) (hx : ev L x = some (.slice p1 n1 k1)) (hy : ev L y = some (.slice ps ms ks)) (hN : Nat.ble (d + 1) N = true) (hwt : Wanted ops L g)
    (K : ∀ c3 a w', Sl N ((d, .int .i64 (min ms n1 : Nat)) :: L) a → Wd fx S (R.set i (.row p rl k c3 e (Enc.sz α))) (RowA c3 r :: E) w' → wpList P ops Q rest a w') :
    wpList P ops Q (⟨some d, .call { callee := .builtin .copy, args := #[x, y], argTypes := #[t, ts] }, ty, pos, af, g⟩ :: rest) a w := by
  subst hms
  have ho := hw.ownAt i hr
  have hX : RdL S w cs xs := hw.envAt ie hE
  obtain ⟨mid, hml, rfl⟩ : Mid cs c2 ni ms (Enc.sz α) := hw.envAt ig hG
  have hcl := hX.length
  have hYl := hY.length
  rw [hvs] at hYl
  have hcl1 : (cs.take (ni * Enc.sz α) ++ mid ++ cs.drop (ni * Enc.sz α)).length = rl * Enc.sz α := ho.1
  obtain ⟨b, rfl⟩ := row_some ho (by omega)
  have hp1 := sub_at_row hso1 rfl (by omega)
  subst hp1
  rw [hl1] at hx
  cases ps with
  | none => exact absurd (hnone rfl) (by omega)
  | some ad =>
    obtain ⟨b2, o2, sp⟩ := ad
    obtain ⟨hsp, hc⟩ := hcell _ rfl
    simp only at hsp hc
    have hsp := hsp (by omega)
    subst hsp
    have hle : ni * Enc.sz α ≤ cs.length := by rw [hcl]; exact Nat.mul_le_mul_right _ (by omega)
    have hmin : Nat.min ms n1 = ms := by show min ms n1 = _; omega
    have hmin' : min ms n1 = ms := hmin
    have hm0 : ¬ (ms = 0) := by omega
    have hload : (loadCells ⟨b2, o2, none⟩ (ms * Enc.sz α)).run P w = .ok ds.toArray w := by
      have := run_loadCells_list (P := P) w ⟨b2, o2, none⟩ ds (fun j v hv => by
        rw [addr_add]
        exact hc j v hv)
      rw [hYl] at this
      exact this
    have htl : (cs.take (ni * Enc.sz α)).length = ni * Enc.sz α := by rw [List.length_take]; omega
    have hfit : ni * Enc.sz α + ds.length ≤ (cs.take (ni * Enc.sz α) ++ mid ++ cs.drop (ni * Enc.sz α)).length := by
      rw [List.length_append, List.length_append, htl, hml, hYl]; omega
    obtain ⟨w', s1, s2, s3, s4⟩ := store_row (P := P) (w1 := w) (q := ni * Enc.sz α) (vs := ds) ho hfit (fun v hv => hY.one v hv)
    have hcs : (cs.take (ni * Enc.sz α) ++ mid ++ cs.drop (ni * Enc.sz α)).take (ni * Enc.sz α) ++ ds ++ (cs.take (ni * Enc.sz α) ++ mid ++ cs.drop (ni * Enc.sz α)).drop (ni * Enc.sz α + ds.length) = cs.take (ni * Enc.sz α) ++ ds ++ cs.drop (ni * Enc.sz α) := by
      rw [List.append_assoc (cs.take _) mid, List.take_left' htl, ← List.append_assoc (cs.take (ni * Enc.sz α)) mid, List.drop_left' (by rw [List.length_append, htl, hml, hYl])]
    rw [hcs] at s3
    have hrd : RdL S w (cs.take (ni * Enc.sz α) ++ ds ++ cs.drop (ni * Enc.sz α)) r := by
      rw [hrr]
      exact RdL.append (RdL.append (RdL.tk hX _) hY) (RdL.dp hX _)
    have hrun : (Builtin.copy_ #[t, ts] ty #[.slice (some ⟨b, ni * Enc.sz α, none⟩) n1 k1, .slice (some ⟨b2, o2, none⟩) ms ks]).run P w = .ok (.int .i64 (min ms n1 : Nat)) w' := by
      simp only [Builtin.copy_, List.getElem?_toArray, List.getElem?_cons_zero, List.getElem?_cons_succ, Sem.run_bind, hu w, Result.andThen_ok, Builtin.lenOf, Sem.run_pure, hsz w, hmin, Builtin.firstCells, hload, hm0, if_false]
      simp [s1, goInt, hmin']
    refine st_do hs (v := .int .i64 (min ms n1 : Nat)) (w' := w') (fun a h => ?_) hwt rfl hN fun a hs => ?_
    · simp [execOp, resolve, invoke, builtin, h _ _ hx, h _ _ hy, hrun]
    · exact K _ a w' hs ((hw.addE (e := RowA (cs.take (ni * Enc.sz α) ++ ds ++ cs.drop (ni * Enc.sz α)) r) hrd).put i hr s2 s3 (fun c hc => ⟨.inl hc, by simp only [Res.blk, Option.map_some, Option.some.injEq] at hc; subst hc; exact s4⟩))

theorem w64_wrap (x : Int) : w64 x = (x + 9223372036854775808) % 18446744073709551616 - 9223372036854775808 := by
  show IntKind.i64.wrap x = _
  rw [IntKind.wrap_i64]
/-- what the plain program says that puts elements in -/
theorem ins_fin {α : Type} {bytes : Nat} {z : α} {xs vs l1 s2 s4 v5 v6 s7 : List α} {i n m : Int} (hn : (xs.length : Int) = n) (hm : (vs.length : Int) = m) (hnl : xs.length ≤ maxLen) (hvl : vs.length ≤ maxLen) (hm0 : ¬ m = 0) (hin : ¬ i = n)
    (g0 : subM xs i xs.length = some v6) (g1 : subM xs 0 i = some l1) (g2 : appZ bytes z l1 (w64 (w64 (n + m) - i)) = some s2) (g4 : copyM s2 i s2.length vs = s4) (g5 : subM s4 (w64 (i + m)) s4.length = some v5) (g7 : copyM s4 (w64 (i + m)) s4.length v6 = s7) :
    (0 ≤ i ∧ i < n ∧ 0 < m) ∧ w64 (n + m) = n + m ∧ w64 (i + m) = i + m ∧ s7 = xs.take i.toNat ++ vs ++ xs.drop i.toNat := by
  obtain ⟨⟨a0, a1, a2⟩, hl1⟩ := subM_t g1
  obtain ⟨⟨b0, b1, b2⟩, hs2⟩ := appZ_t g2
  obtain ⟨_, hv6⟩ := subM_t g0
  simp only [maxLen] at hnl hvl
  simp only [Int.toNat_zero, List.drop_zero] at hl1
  have hll : (l1.length : Int) = i := by rw [hl1, List.length_take]; omega
  have e1 : w64 (n + m) = n + m := by rw [w64_wrap] at b0 b1 b2 ⊢; rw [w64_wrap] at b0 b1; omega
  rw [e1] at b0 b1 hs2
  have e2 : w64 (n + m - i) = n + m - i := by rw [w64_wrap] at b0 ⊢; omega
  rw [e2] at b1 hs2
  have e3 : w64 (i + m) = i + m := by rw [w64_wrap]; omega
  refine ⟨⟨a1, by omega, by omega⟩, e1, e3, ?_⟩
  rw [e3] at g7
  obtain ⟨ni, rfl⟩ : ∃ ni : Nat, i = ni := ⟨i.toNat, by omega⟩
  subst hn hm
  rw [Int.toNat_natCast] at hl1 hv6 ⊢
  have ec : ((xs.length : Int) + vs.length - ni).toNat = xs.length + vs.length - ni := by omega
  rw [ec] at hs2
  have hl1l : l1.length = ni := by omega
  have hs2l : s2.length = xs.length + vs.length := by rw [hs2, List.length_append, List.length_replicate]; omega
  have e4 : ((ni : Int) + vs.length).toNat = ni + vs.length := by omega
  have hs4 : s4 = l1 ++ vs ++ s2.drop (ni + vs.length) := by
    rw [← g4]
    unfold copyM
    have q1 : (s2.length : Int).toNat - (ni : Int).toNat = xs.length + vs.length - ni := by omega
    have q2 : min vs.length (xs.length + vs.length - ni) = vs.length := by omega
    rw [q1, q2, Int.toNat_natCast, List.take_of_length_le (show vs.length ≤ xs.length + vs.length - ni by omega)]
    congr 2
    rw [hs2, List.take_left' hl1l]
  have hA : (l1 ++ vs).length = ni + vs.length := by rw [List.length_append]; omega
  have hL : s4.length = xs.length + vs.length := by rw [hs4, List.length_append, hA, List.length_drop]; omega
  have hB : v6.length = xs.length - ni := by rw [hv6]; simp
  rw [← g7]
  unfold copyM
  have q3 : (s4.length : Int).toNat - ((ni : Int) + vs.length).toNat = xs.length - ni := by omega
  rw [q3, e4, hB, Nat.min_self, List.take_of_length_le (show v6.length ≤ xs.length - ni by omega)]
  have q4 : s4.drop (ni + vs.length + (xs.length - ni)) = [] := List.drop_eq_nil_of_le (by omega)
  have q5 : s4.take (ni + vs.length) = l1 ++ vs := by rw [hs4, List.take_left' hA]
  rw [q4, q5, List.append_nil, hl1]
  congr 1
  rw [hv6, Int.toNat_natCast, List.take_of_length_le (Nat.le_refl _)]
theorem row_max {p : Option Addr} {n k : Nat} {cs : List Value} {T : TypeId} {sz : Nat} (ho : (Res.row p n k cs T sz).own w) : n ≤ k ∧ k ≤ maxLen := by
  rcases ho.2 with ⟨e0, e1⟩ | ⟨b, cap, cur, e0, _, g1, g2, g3, g4, g5⟩
  · simp only [Value.slice.injEq] at e0
    obtain ⟨_, rfl, rfl⟩ := e0
    exact ⟨Nat.le_refl _, Nat.zero_le _⟩
  · simp only [Value.slice.injEq] at e0
    obtain ⟨_, _, rfl⟩ := e0
    exact ⟨g2, g3⟩
theorem grow_lt {α : Type} {bytes k : Nat} {z : α} {xs l1 s2 : List α} {i Y : Int} (hk : decide ((k : Int) < w64 Y) = true) (g1 : subM xs 0 i = some l1) (g2 : appZ bytes z l1 (w64 (w64 Y - i)) = some s2) : (k : Int) < l1.length + w64 (w64 Y - i) := by
  obtain ⟨⟨a0, a1, a2⟩, hl1⟩ := subM_t g1
  obtain ⟨⟨b0, b1, b2⟩, _⟩ := appZ_t g2
  have hk := of_decide_eq_true hk
  simp only [Int.toNat_zero, List.drop_zero] at hl1
  have hll : (l1.length : Int) = i := by rw [hl1, List.length_take]; omega
  have e1 := w64_wrap Y
  have e2 := w64_wrap (w64 Y - i)
  generalize w64 (w64 Y - i) = c at *
  generalize w64 Y = X at *
  omega
theorem grow_slc {p : Option Addr} {n k n' sz : Nat} {h' : Int} (h0 : 0 ≤ h') (h1 : h'.toNat = n') (h2 : n' ≤ k) : SubOf p n k 0 h' sz p n' k := by
  refine ⟨by omega, by omega, by omega, by rw [h1]; simp, by simp, ?_⟩
  rw [Int.toNat_zero, Nat.zero_mul]
  split
  · rfl
  · cases p <;> simp [Addr.add]
/-- all that the walk asks where there is room -/
theorem ins_B {α : Type} {bytes k kv : Nat} {z : α} {xs vs l1 s2 s4 v5 v6 s7 : List α} {i n m : Int} (hn : some (xs.length : Int) = some n) (hm : some (vs.length : Int) = some m) (h1 : (m == 0) = false) (h2 : (i == n) = false) (hk : decide ((k : Int) < w64 (n + m)) = false)
    (hx : xs.length ≤ k ∧ k ≤ maxLen) (hv : vs.length ≤ kv ∧ kv ≤ maxLen) (g1 : subM xs 0 i = some l1) (g2 : appZ bytes z l1 (w64 (w64 (n + m) - i)) = some s2) (g4 : some (copyM s2 i s2.length vs) = some s4) (g5 : subM s4 (w64 (i + m)) s4.length = some v5)
    (g6 : subM xs i xs.length = some v6) (g7 : some (copyM s4 (w64 (i + m)) s4.length v6) = some s7) :
    ∃ ysA ysB, subM s7 (w64 (i + m)) s7.length = some ysA ∧ subM s7 i s7.length = some ysB ∧ (xs.length ≤ s7.length ∧ s7.length ≤ k) ∧ (0 ≤ w64 (n + m) ∧ (w64 (n + m)).toNat = s7.length) ∧ s7.length = xs.length + vs.length ∧ i.toNat < xs.length ∧ (w64 (i + m)).toNat = i.toNat + vs.length ∧
      ysA.length = xs.length - i.toNat ∧ ysB.length = xs.length + vs.length - i.toNat ∧ 0 < vs.length ∧ 0 < ysA.length ∧ s7 = xs.take i.toNat ++ vs ++ xs.drop i.toNat := by
  obtain ⟨⟨a0, a1, a2⟩, e1, e2, e3⟩ := ins_fin (Option.some.inj hn) (Option.some.inj hm) (by omega) (by omega) (beq_eq_false_iff_ne.1 h1) (beq_eq_false_iff_ne.1 h2) g6 g1 g2 (Option.some.inj g4) g5 (Option.some.inj g7)
  have hn := Option.some.inj hn
  have hm := Option.some.inj hm
  have hk := of_decide_eq_false hk
  have hl : s7.length = xs.length + vs.length := by
    rw [e3, List.length_append, List.length_append, List.length_take, List.length_drop]; omega
  have hA : subM s7 (w64 (i + m)) s7.length = some ((s7.take (s7.length : Int).toNat).drop (w64 (i + m)).toNat) := by unfold subM; rw [if_pos (by omega)]
  have hB : subM s7 i s7.length = some ((s7.take (s7.length : Int).toNat).drop i.toNat) := by unfold subM; rw [if_pos (by omega)]
  refine ⟨_, _, hA, hB, by omega, by omega, hl, by omega, by omega, ?_, ?_, by omega, ?_, e3⟩
  · rw [List.length_drop, List.length_take]; omega
  · rw [List.length_drop, List.length_take]; omega
  · rw [List.length_drop, List.length_take]; omega
end steps
end Go.Proofs.Ytljdiobhmenjgaa.Wk

/- A library for walks over any program: places of an array that are not known, rows that may begin within their block. No statement of the seat is used here. -/
import Derived.Test.YtmlekplbmfengaaGreatLibZ
namespace Go.Proofs.YtmlekplbmfengaaGreat.Wk
open Go Go.RowKit Go.Proofs.YtmlekplbmfengaaGreat.Sh
set_option linter.unusedSimpArgs false
set_option linter.unusedVariables false
section steps
variable {P : Program} {ops : Array Oper} {Q : Exit → Act → World → Prop} {rest : List Oper} {N : Nat} {L : Slots} {a : Act} {w : World} {fx : Fx} {S : Nat → Prop} {R : List Res} {E : List Asrt}
variable {ty : TypeId} {pos : String} {af : Array Edge} {g : Option (Nat × Bool)} {d : Nat}
/-! ### rows that may begin within their block -/
theorem addr_block (a : Addr) (n : Nat) : (a.add n).block = a.block := by unfold Addr.add; split <;> rfl
theorem row_rowo {p : Option Addr} {n k : Nat} {cs : List Value} {T : TypeId} {sz : Nat} (h : (Res.row p n k cs T sz).own w) : (Res.rowo p n k cs T sz).own w := by
  obtain ⟨hl, h⟩ := h
  refine ⟨hl, ?_⟩
  rcases h with ⟨e0, e1⟩ | ⟨b, cap, cur, e0, _, g1, g2, g3, g4, g5⟩
  · simp only [Value.slice.injEq] at e0
    exact .inl ⟨e0.1, e1, e0.2.2⟩
  · simp only [Value.slice.injEq] at e0
    obtain ⟨rfl, _, rfl⟩ := e0
    exact .inr ⟨b, 0, cur, rfl, g1, g2, g3, by omega, by rw [List.drop_zero]; exact g5⟩
theorem Wd.toO (hw : Wd fx S R E w) (i : Nat) {p : Option Addr} {n k : Nat} {cs : List Value} {T : TypeId} {sz : Nat} (hr : R[i]? = some (.row p n k cs T sz)) : Wd fx S (R.set i (.rowo p n k cs T sz)) E w :=
  hw.say i hr (row_rowo (hw.ownAt i hr)) rfl
theorem rowo_cell {b o n k j : Nat} {cs : List Value} {T : TypeId} {sz : Nat} {v : Value} (h : (Res.rowo (some ⟨b, o, none⟩) n k cs T sz).own w) (hv : cs[j]? = some v) : w.cell? ⟨b, o + j, none⟩ = some v := by
  obtain ⟨hl, h⟩ := h
  rcases h with ⟨e0, _⟩ | ⟨b', o', cur, e0, g1, g2, g3, g4, g5⟩
  · cases e0
  · simp only [Option.some.injEq, Addr.mk.injEq] at e0
    obtain ⟨rfl, rfl, _⟩ := e0
    rw [cell_of_row w b (o + j) cur T (0, 0) g1]
    rw [← g5, List.getElem?_take] at hv
    split at hv
    · rw [List.getElem?_drop] at hv; simpa using hv
    · cases hv
theorem rowo_some {p : Option Addr} {n k : Nat} {cs : List Value} {T : TypeId} {sz : Nat} (h : (Res.rowo p n k cs T sz).own w) (hn : 0 < n) : ∃ b o, p = some ⟨b, o, none⟩ := by
  rcases h.2 with ⟨_, h0, _⟩ | ⟨b, o, cur, e, _⟩
  · omega
  · exact ⟨b, o, e⟩
/-- the end of a row -/
theorem w_sufO {α : Type} [Enc α] {p : Option Addr} {k : Nat} {cs : List Value} {T : TypeId} {xs ys : List α} {l : Int} (hw : Wd fx S R E w) (i : Nat) (hr : R[i]? = some (.rowo p xs.length k cs T (Enc.sz α))) (ie : Nat) (hE : E[ie]? = some (RowA cs xs)) (h : subM xs l (xs.length : Int) = some ys) :
    ∃ p' k', Wd fx S (R.set i (.rowo p' ys.length k' (cs.drop (l.toNat * Enc.sz α)) T (Enc.sz α))) (RowA (cs.drop (l.toNat * Enc.sz α)) ys :: E) w ∧ SubOf p xs.length k l (xs.length : Int) (Enc.sz α) p' ys.length k' := by
  obtain ⟨⟨h0, h1, h2⟩, hys⟩ := subM_t h
  have hl : ys.length = xs.length - l.toNat := by rw [hys]; simp
  have ho := hw.ownAt i hr
  have hR : RdL S w cs xs := hw.envAt ie hE
  have hys' : ys = xs.drop l.toNat := by rw [hys]; simp
  have hrd : (RowA (cs.drop (l.toNat * Enc.sz α)) ys).p S w := by rw [hys']; exact RdL.dp hR _
  have hnk : xs.length ≤ k := by
    rcases ho.2 with ⟨_, e1, e2⟩ | ⟨b, o, cur, e0, g1, g2, _⟩ <;> omega
  have hcl := ho.1
  refine ⟨if k = l.toNat then p else p.map (·.add (l.toNat * Enc.sz α)), k - l.toNat, (hw.addE hrd).say i hr ?_ ?_, h0, h1, by omega, by omega, rfl, rfl⟩
  · have hlen : (cs.drop (l.toNat * Enc.sz α)).length = ys.length * Enc.sz α := by
      rw [List.length_drop, hcl, hl, Nat.sub_mul]
    refine ⟨hlen, ?_⟩
    by_cases hk : k = l.toNat
    · rw [if_pos hk]
      have hy0 : ys.length = 0 := by omega
      rcases ho.2 with ⟨e0, e1, e2⟩ | ⟨b, o, cur, e0, g1, g2, g3, g4, g5⟩
      · exact .inl ⟨e0, hy0, by omega⟩
      · refine .inr ⟨b, o, cur, e0, g1, by omega, by omega, ?_, ?_⟩
        · rw [show k - l.toNat = 0 by omega, Nat.zero_mul]
          have : 0 ≤ k * Enc.sz α := Nat.zero_le _
          omega
        · rw [hy0, Nat.zero_mul, List.take_zero]
          exact (List.eq_nil_of_length_eq_zero (by rw [hlen, hy0, Nat.zero_mul])).symm
    · rw [if_neg hk]
      rcases ho.2 with ⟨e0, e1, e2⟩ | ⟨b, o, cur, e0, g1, g2, g3, g4, g5⟩
      · exact .inl ⟨by rw [e0]; rfl, by omega, by omega⟩
      · refine .inr ⟨b, o + l.toNat * Enc.sz α, cur, by rw [e0]; simp only [Option.map_some, addr_add], g1, by omega, by omega, ?_, ?_⟩
        · have : k * Enc.sz α = l.toNat * Enc.sz α + (k - l.toNat) * Enc.sz α := by rw [← Nat.add_mul]; congr 1; omega
          omega
        · rw [← g5, List.drop_take, List.drop_drop, hl, Nat.sub_mul]
  · simp only [Res.blk]
    split
    · rfl
    · cases p with
      | none => rfl
      | some a => simp only [Option.map_some, addr_block]
/-- an element of such a row -/
def OEl (cs : List Value) (o i sz q : Nat) (es : List Value) : Prop := o + i * sz = q ∧ (cs.drop (i * sz)).take sz = es
theorem Wd.elemOV {α : Type} [Enc α] (hw : Wd fx S R E w) (i : Nat) {p : Option Addr} {k : Nat} {cs : List Value} {T : TypeId} {xs : List α} (hr : R[i]? = some (.rowo p xs.length k cs T (Enc.sz α))) (ie : Nat) (hE : E[ie]? = some (RowA cs xs)) {j : Int} {x : α} (hx : ix xs j = some x) :
    ∃ b o q es, p = some ⟨b, o, none⟩ ∧ (0 ≤ j ∧ j < (xs.length : Int)) ∧ o + j.toNat * Enc.sz α = q ∧ OEl cs o j.toNat (Enc.sz α) q es ∧ Enc.rd S w es x := by
  obtain ⟨h0, h1, h2⟩ := ix_t hx
  obtain ⟨b, o, rfl⟩ := rowo_some (hw.ownAt i hr) (by omega)
  obtain ⟨hlt, he⟩ := List.getElem?_eq_some_iff.1 h2
  have hR : RdL S w cs xs := hw.envAt ie hE
  have := hR.get j.toNat hlt
  rw [he] at this
  exact ⟨b, o, _, _, rfl, ⟨h0, h1⟩, rfl, ⟨rfl, rfl⟩, this⟩
theorem y_loadO1 {T : TypeId} {x : Operand} {b o n k i q sz sz' j : Nat} {v : Value} {cs es : List Value} {T' : TypeId} {dd : Option Tmp} (hr : (Res.rowo (some ⟨b, o, none⟩) n k cs T' sz).own w) (hx : ev L x = some (.pointer (some ⟨b, q + j, none⟩)))
    (ha : AggT P T false) (he : OEl cs o i sz' q es) (hv : es[j]? = some v) : Yd P ⟨dd, .load T x, ty, pos, af, g⟩ L w v := by
  obtain ⟨rfl, he⟩ := he
  exact y_load1 ha hx (by rw [Nat.add_assoc]; exact rowo_cell hr (take_cell he hv))
/-- append -/
theorem run_append_rowo {t e ty : TypeId} {size bytes : Nat} {z : Value} (ht : ElT P t e size bytes z) {p : Option Addr} {n k : Nat} {cs : List Value} (hown : (Res.rowo p n k cs e size).own w)
    {ad : Addr} {m c : Nat} {news : List Value} (hl : news.length = m * size) (hnews : ∀ j u, news[j]? = some u → w.cell? (ad.add j) = some u) (h1 : ∀ u ∈ news, u.oneCell' = true) (h63 : n + m ≤ maxLen) (hbytes : (n + m) * bytes ≤ 140737488355328) :
    ∃ p' k' w', (Builtin.append_ #[t, t] ty #[.slice p n k, .slice (some ad) m c]).run P w = .ok (.slice p' (n + m) k') w' ∧ (Res.rowo p' (n + m) k' (cs ++ news) e size).own w' ∧ Grew w w' (p.map (·.block)) ∧
      ∀ b, p'.map (·.block) = some b → (p.map (·.block) = some b ∨ w.heap.size ≤ b) ∧ b < w'.heap.size := by
  obtain ⟨hcl, hown'⟩ := hown
  rcases hown' with ⟨rfl, rfl, rfl⟩ | ⟨b, o, cur, rfl, hg, hnc, hcm, hcs, htake⟩
  · have hx : cs = [] := List.eq_nil_of_length_eq_zero (by simpa using hcl)
    subst hx
    obtain ⟨p', k', w', e1, e2, e3, e4⟩ := run_append_row (ty := ty) (p := none) (n := 0) (k := 0) (cs := []) ht ⟨by simp, .inl ⟨rfl, rfl⟩⟩ (ad := ad) (c := c) hl hnews h1 h63 hbytes
    exact ⟨p', k', w', e1, row_rowo e2, e3, e4⟩
  · by_cases hroom : n + m ≤ k
    · obtain ⟨hu, ⟨i, hi, rfl, rfl, hz⟩, hzs, hpos⟩ := ht
      have hlen : (cs ++ news).length = (n + m) * i.size := by rw [List.length_append, hcl, hl, Nat.add_mul]
      have hmul : (n + m) * i.size ≤ k * i.size := Nat.mul_le_mul_right _ hroom
      have hadd : (n + m) * i.size = n * i.size + m * i.size := Nat.add_mul _ _ _
      have hfit : o + n * i.size + 0 + news.length ≤ cur.size := by omega
      have hf := run_firstCells_some (P := P) w i.size m ad m c news hl hnews
      have hst := run_storeCells_at P b (o + n * i.size) e news 0 cur w hg hfit h1
      simp only [Nat.add_zero] at hst
      have hr : (Builtin.append_ #[t, t] ty #[.slice (some ⟨b, o, none⟩) n k, .slice (some ad) m c]).run P w = .ok (.slice (some ⟨b, o, none⟩) (n + m) k) (w.setRow b (cur.toList.take (o + n * i.size) ++ news ++ cur.toList.drop (o + n * i.size + news.length)).toArray) := by
        simp [Builtin.append_, run_underlying hu, sizeOf, typeInfo, hi, Builtin.lenOf, hroom, hf, Addr.add_lit, hst]
      refine ⟨_, _, _, hr, ⟨hlen, .inr ⟨b, o, _, rfl, setRow_heap w b cur _ e _ hg, hroom, hcm, ?_, ?_⟩⟩, ⟨⟨rfl, rfl, rfl, by simp, fun j _ hk => setRow_other w b j _ (fun e => hk (by simp [e]))⟩, Nat.le_refl _⟩, fun j hj => ⟨.inl hj, ?_⟩⟩
      · simp only [List.size_toArray, List.length_append, List.length_take, List.length_drop, Array.length_toList]
        omega
      · have hsz : cur.toList.length = cur.size := Array.length_toList
        have e1 : cur.toList.take (o + n * i.size) = cur.toList.take o ++ cs := by
          rw [← htake, List.take_add]
        rw [List.toList_toArray, e1, List.append_assoc, List.append_assoc, List.drop_append_of_le_length (by simp only [List.length_take]; omega)]
        rw [List.drop_eq_nil_of_le (by simp only [List.length_take]; omega), List.nil_append, ← List.append_assoc, ← hlen]
        exact List.take_left
      · simp only [Option.map_some, Option.some.injEq] at hj; subst hj; simpa using (Array.getElem?_eq_some_iff.1 hg).1
    · have ht0 := ht
      obtain ⟨hu, ⟨i, hi, hi1, hi2, hz⟩, hzs, hpos⟩ := ht
      have hrow : (Res.rowo (some ⟨b, o, none⟩) n k cs e size).own w := ⟨hcl, .inr ⟨b, o, cur, rfl, hg, hnc, hcm, hcs, htake⟩⟩
      have hmL : n + m ≤ 9223372036854775807 := by simp only [maxLen] at h63; omega
      have hr := run_append_grow (P := P) w t ty e i z hu hi hz ⟨b, o, none⟩ n k cs (by rw [hi1]; exact hcl) (fun j u hu => by rw [addr_add]; exact rowo_cell hrow hu) ad m c news (by rw [hi1]; exact hl) hnews (by omega) (by omega) (growslice_fits (by omega) (by rw [hi2]; exact hbytes))
      have hge := grownCap_ge w (n + m) k e
      have hcm2 : grownCap w (n + m) k e ≤ maxLen := grownCap_le_maxLen w (n + m) k e h63
      have hlen : (cs ++ news).length = (n + m) * size := by rw [List.length_append, hcl, hl, Nat.add_mul]
      refine ⟨_, _, _, hr, ⟨hlen, .inr ⟨w.heap.size, 0, _, rfl, heap_alloc_new w.drew _, hge, hcm2, ?_, ?_⟩⟩, ⟨⟨rfl, rfl, rfl, by simp, fun k hk _ => heap_alloc_old w.drew _ k hk⟩, Nat.le_succ _⟩, fun j hj => by simp only [Option.map_some, Option.some.injEq] at hj; subst hj; simp⟩
      · simp only [Array.size_append, List.size_toArray, size_zeroCells, hzs, hcl, hl, ← Nat.add_mul, Nat.zero_add]
        refine Nat.le_of_eq ?_
        congr 1
        omega
      · simp only [Array.toList_append, List.append_assoc, List.drop_zero]
        rw [← List.append_assoc, ← hlen]
        exact List.take_left
theorem run_append_rowoN {t e ty : TypeId} {size bytes : Nat} {z : Value} (ht : ElT P t e size bytes z) {p : Option Addr} {n k : Nat} {cs : List Value} (hown : (Res.rowo p n k cs e size).own w) :
    (Builtin.append_ #[t, t] ty #[.slice p n k, .slice none 0 0]).run P w = .ok (.slice p n k) w := by
  obtain ⟨hu, ⟨i, hi, rfl, rfl, hz⟩, hzs, hpos⟩ := ht
  have hnk : n ≤ k := by
    rcases hown.2 with ⟨_, e1, e2⟩ | ⟨b, o, cur, e0, hg, hnc, _⟩ <;> omega
  cases p <;> simp [Builtin.append_, run_underlying hu, sizeOf, typeInfo, hi, Builtin.lenOf, Builtin.firstCells, hnk, storeCells]
theorem w_appendO {t e : TypeId} {size bytes : Nat} {z : Value} {s x : Operand} {p : Option Addr} {n k : Nat} {cs : List Value} {pn : Option Addr} {m c : Nat} {news : List Value} (hs : Sl N L a) (hw : Wd fx S R E w) (ht : ElT P t e size bytes z)
    (i : Nat) (hr : R[i]? = some (.rowo p n k cs e size)) (hx : ev L s = some (.slice p n k)) (hy : ev L x = some (.slice pn m c))
    (hl : news.length = m * size) (hnone : pn = none → m = 0 ∧ c = 0) (hnews : ∀ ad, pn = some ad → (0 < m → ad.spot = none) ∧ CellsAt w ad.block ad.off news) (h1 : ∀ u ∈ news, u.oneCell' = true) (h63 : n + m ≤ maxLen) (hbytes : (n + m) * bytes ≤ 140737488355328)
    (hN : Nat.ble (d + 1) N = true) (hwt : Wanted ops L g)
    (K : ∀ p' k' a w', Sl N ((d, .slice p' (n + m) k') :: L) a → Wd fx S (R.set i (.rowo p' (n + m) k' (cs ++ news) e size)) E w' → wpList P ops Q rest a w') :
    wpList P ops Q (⟨some d, .call { callee := .builtin .append, args := #[s, x], argTypes := #[t, t] }, ty, pos, af, g⟩ :: rest) a w := by
  have hown := hw.ownAt i hr
  have hfin : ∀ p' k' w', (Builtin.append_ #[t, t] ty #[.slice p n k, .slice pn m c]).run P w = .ok (.slice p' (n + m) k') w' → (Res.rowo p' (n + m) k' (cs ++ news) e size).own w' → Grew w w' (p.map (·.block)) →
      (∀ b, p'.map (·.block) = some b → (p.map (·.block) = some b ∨ w.heap.size ≤ b) ∧ b < w'.heap.size) → wpList P ops Q (⟨some d, .call { callee := .builtin .append, args := #[s, x], argTypes := #[t, t] }, ty, pos, af, g⟩ :: rest) a w := by
    intro p' k' w' hrun ho hg hb
    refine st_do hs (v := .slice p' (n + m) k') (w' := w') (fun a h => ?_) hwt rfl hN fun a hs => K _ _ _ _ hs (hw.put i hr hg ho hb)
    simp [execOp, resolve, invoke, builtin, h _ _ hx, h _ _ hy, hrun]
  cases pn with
  | none =>
    obtain ⟨rfl, rfl⟩ := hnone rfl
    have hn : news = [] := List.eq_nil_of_length_eq_zero (by simpa using hl)
    subst hn
    refine hfin p k w (run_append_rowoN ht hown) (by simpa using hown) ⟨⟨rfl, rfl, rfl, Nat.le_refl _, fun _ _ _ => rfl⟩, Nat.le_refl _⟩ fun b hb => ⟨.inl hb, (hw.at_ _ (List.mem_of_getElem? hr) b hb).2.1⟩
  | some ad =>
    obtain ⟨b, o, sp⟩ := ad
    obtain ⟨h2, h3⟩ := hnews _ rfl
    simp only at h2 h3
    by_cases hm0 : m = 0
    · have hn : news = [] := List.eq_nil_of_length_eq_zero (by rw [hl, hm0, Nat.zero_mul])
      subst hn
      obtain ⟨p', k', w', e1, e2, e3, e4⟩ := run_append_rowo (ty := ty) ht hown (ad := ⟨b, o, sp⟩) (m := m) (c := c) hl (fun j u hu => (by cases hu)) h1 h63 hbytes
      exact hfin p' k' w' e1 e2 e3 e4
    have h2 := h2 (by omega)
    subst h2
    obtain ⟨p', k', w', e1, e2, e3, e4⟩ := run_append_rowo (ty := ty) ht hown (ad := ⟨b, o, none⟩) (m := m) (c := c) hl (fun j u hu => by rw [addr_add]; exact h3 j u hu) h1 h63 hbytes
    exact hfin p' k' w' e1 e2 e3 e4
theorem w_appendOR {α : Type} [Enc α] {t e : TypeId} {bytes : Nat} {z : Value} {s x : Operand} {p : Option Addr} {k : Nat} {cs : List Value} {pn : Option Addr} {c : Nat} {ds : List Value} {xs ys zs : List α} (hs : Sl N L a) (hw : Wd fx S R E w) (ht : ElT P t e (Enc.sz α) bytes z)
    (i : Nat) (hr : R[i]? = some (.rowo p xs.length k cs e (Enc.sz α))) (hx : ev L s = some (.slice p xs.length k)) (hy : ev L x = some (.slice pn ys.length c)) (jx : Nat) (hjx : E[jx]? = some (RowA cs xs)) (iy : Nat) (hry : R[iy]? = some (.row pn ys.length c ds e (Enc.sz α))) (jy : Nat) (hjy : E[jy]? = some (RowA ds ys))
    (hb : appM bytes xs ys = some zs) (hN : Nat.ble (d + 1) N = true) (hwt : Wanted ops L g)
    (K : ∀ p' k' cs' a w', Sl N ((d, .slice p' zs.length k') :: L) a → Wd fx S (R.set i (.rowo p' zs.length k' cs' e (Enc.sz α))) (RowA cs' zs :: E) w' → wpList P ops Q rest a w') :
    wpList P ops Q (⟨some d, .call { callee := .builtin .append, args := #[s, x], argTypes := #[t, t] }, ty, pos, af, g⟩ :: rest) a w := by
  have hX : RdL S w cs xs := hw.envAt jx hjx
  have hY : RdL S w ds ys := hw.envAt jy hjy
  obtain ⟨hb2, rfl⟩ := appM_t hb
  have hA : RdL S w (cs ++ ds) (xs ++ ys) := hX.append hY
  have hA' : (RowA (cs ++ ds) (xs ++ ys)).p S w := hA
  have ho := hw.ownAt iy hry
  refine w_appendO hs (hw.addE hA') ht i hr hx hy (news := ds) hY.length (fun h => ?_) (fun ad h => ?_) hY.one hb2.1 hb2.2 hN hwt fun p' k' a w' hs' hw' => ?_
  · subst h
    rcases ho.2 with ⟨h1, h2⟩ | ⟨b, cap, cur, h1, _⟩
    · simp only [Value.slice.injEq] at h1; exact ⟨h2, h1.2.2⟩
    · simp at h1
  · subst h
    rcases ho.2 with ⟨h1, h2⟩ | ⟨b, cap, cur, h1, _⟩
    · simp at h1
    · simp only [Value.slice.injEq, Option.some.injEq] at h1
      obtain ⟨rfl, _, rfl⟩ := h1
      exact ⟨fun _ => rfl, fun j v hv => by rw [Nat.zero_add]; exact row_cell ho hv⟩
  · rw [← List.length_append] at hs' hw'
    exact K p' k' (cs ++ ds) a w' hs' hw'
/-! ### parts of rows: lent, or kept while the row is written -/
theorem sl_sub {α : Type} [Enc α] {p p' : Option Addr} {k k' : Nat} {xs ys : List α} {l h' : Int} (h : (SlA p xs.length k xs).p S w) (hsub : subM xs l h' = some ys) (hso : SubOf p xs.length k l h' (Enc.sz α) p' ys.length k') : (SlA p' ys.length k' ys).p S w := by
  obtain ⟨p2, k2, h2, h3⟩ := sub_env h hsub
  obtain ⟨_, _, _, _, rfl, rfl⟩ := hso
  obtain ⟨_, _, _, _, rfl, rfl⟩ := h3
  exact h2
theorem row_sub_at {α : Type} [Enc α] {b : Nat} {k : Nat} {cs : List Value} {T : TypeId} {xs ys : List α} {l h' : Int} (hw : Wd fx S R E w) (i : Nat) (hr : R[i]? = some (.row (some ⟨b, 0, none⟩) xs.length k cs T (Enc.sz α))) (h : subM xs l h' = some ys) :
    ∃ o k', SubOf (some ⟨b, 0, none⟩) xs.length k l h' (Enc.sz α) (some ⟨b, o, none⟩) ys.length k' := by
  obtain ⟨p', k', hs⟩ := row_sub hw i hr h
  have hs' := hs
  obtain ⟨h1, h2, h3, h4, h5, h6⟩ := hs'
  by_cases hk : k = l.toNat
  · rw [if_pos hk] at h6
    subst h6
    exact ⟨0, k', hs⟩
  · rw [if_neg hk] at h6
    simp only [Option.map_some, addr_add] at h6
    subst h6
    exact ⟨_, k', hs⟩
theorem Wd.elemLK {α : Type} [Enc α] (hw : Wd fx S R E w) (i : Nat) {b o n n' k k' : Nat} {cs : List Value} {T : TypeId} {xs : List α} {lo hi : Int} (hr : R[i]? = some (.row (some ⟨b, 0, none⟩) xs.length k cs T (Enc.sz α))) (ie : Nat) (hE : E[ie]? = some (RowA cs xs))
    (hso : SubOf (some ⟨b, 0, none⟩) n k lo hi (Enc.sz α) (some ⟨b, o, none⟩) n' k') {j : Int} {x : α} (hx : ixV xs lo n' j = some x) :
    ∃ q es, (0 ≤ j ∧ j < (n' : Int)) ∧ o + j.toNat * Enc.sz α = q ∧ (cs.drop q).take (Enc.sz α) = es ∧ Enc.rd S w es x := by
  obtain ⟨h0, h1, hx⟩ := ixV_t hx
  obtain ⟨q, es, h2, h3, h4, h5⟩ := hw.elemRK i hr ie hE hx
  refine ⟨q, es, ⟨h0, h1⟩, ?_, h4, h5⟩
  have ha := sub_at_row hso rfl (by omega)
  simp only [Option.some.injEq, Addr.mk.injEq] at ha
  obtain ⟨_, ha, _⟩ := ha
  rw [ha, ← h3, Nat.zero_add, ← Nat.add_mul]
  congr 1
  have := hso.1
  omega
end steps
end Go.Proofs.YtmlekplbmfengaaGreat.Wk

/- A library for walks over any program: maps of the call's own, by integer keys, with plain elements. No statement of the seat is used here. -/
import Derived.Test.YthdimlepjpnncaaGreatLibC
namespace Go.Proofs.YthdimlepjpnncaaGreat.Wk
open Go Go.RowKit Go.Proofs.YthdimlepjpnncaaGreat.Sh
open Go.ChangeMaps Go.MapKept
open Go.WideElems (Fit rd rg pl rd_val elemAt)
open Go.Maps (Keyed)
set_option linter.unusedSimpArgs false
set_option linter.unusedVariables false

/-- how the elements of a map read -/
class MpRd (α : Type) extends MpEl α where
  und : TypeDesc
  rdm : ∀ {P : Program} {e : TypeId} {v : α}, P.underlying e = some und → MpEl.ok v = true → plainElem (H := Unit) P e (MpEl.val v) = some (.lit (MpEl.lit v), [])
  inv : ∀ {P : Program} {e : TypeId} {u : Value} {v : α} {ps : List MemPlace}, P.underlying e = some und → plainElem (H := Unit) P e u = some (.lit (MpEl.lit v), ps) → u = MpEl.val v
instance : MpRd Int where
  und := .int .i64
  rdm := fun he ho => plainElem_int he (by simpa [MpEl.ok, Lit.wf, IntKind.min, IntKind.max, IntKind.signed, IntKind.bits] using ho)
  inv := fun he h => by
    obtain ⟨a, rfl, hz, _⟩ := plainElem_int_inv he h
    simp only [Prod.mk.injEq, DataW.lit.injEq, MpEl.lit, Lit.int.injEq, true_and] at hz
    rw [hz.1]; rfl
instance : MpRd Bool where
  und := .bool
  rdm := fun he _ => plainElem_bool he _
  inv := fun {P e u v ps} he h => by
    unfold plainElem at h
    rw [he] at h
    cases u <;> simp [MpEl.lit] at h
    rw [h.1]; rfl
/-- a map of the call's own -/
abbrev mpR {α : Type} [MpEl α] (P : Program) (kt et : TypeId) (z : α) (b : Nat) (m : Mp α) : Res := .mp b m.n P kt et (MpEl.lit z) (fun x => MpEl.lit (m.at_ x))

section steps
variable {P : Program} {ops : Array Oper} {Q : Exit → Act → World → Prop} {rest : List Oper} {N : Nat} {L : Slots} {a : Act} {w : World} {fx : Fx} {S : Nat → Prop} {R : List Res} {E : List Asrt}
variable {ty : TypeId} {pos : String} {af : Array Edge} {g : Option (Nat × Bool)} {d : Nat}

theorem wf_key {x : Int} (h : -9223372036854775808 ≤ x ∧ x ≤ 9223372036854775807) : (Lit.int .i64 x).wf = true := by
  simpa [Lit.wf, IntKind.min, IntKind.max, IntKind.signed, IntKind.bits] using h

theorem map_update {t k e b n : Nat} {D : DataW Unit} (h : w.ownsMap P k (plainElem (H := Unit) P e) b n D) (K : Keyed P k) (ht : P.underlying t = some (.map k e)) (hn : n < maxLen) {key val : Value} {kl : Lit} {x : DataW Unit} {ps : List MemPlace}
    (hkey : keyOf P k key = some kl) (hv : plainElem (H := Unit) P e val = some (x, ps)) : ∃ w', (Instr.mapUpdate t (.map (some b)) key val).run P w = .ok () w' ∧ w'.ownsMap P k (plainElem (H := Unit) P e) b (n + 1) (D.put kl x) ∧ Grew w w' (some b) := by
  obtain ⟨es, clock, hb, F, hs, rfl⟩ := h
  obtain ⟨es', clock', hrun, F', hput, _⟩ := Maps.fit_store (R' := plainElem P e) K ht hb F (Nat.lt_of_le_of_lt hs hn) (fun _ _ _ _ hz => hz) hkey hv
  refine ⟨_, hrun, ⟨es', clock', heap_setBlock_same hb _, F', ?_, ?_⟩, ⟨⟨rfl, rfl, rfl, by simp [setBlock], fun i _ hi => heap_setBlock_other hb _ (fun e => hi (by rw [e]))⟩, Nat.le_refl _⟩⟩
  · have e1 : es'.size = ((es'.toList.map (rg P k (plainElem (H := Unit) P e))).foldr DataW.insert []).length := by rw [length_sorted]; simp
    rw [e1, hput]
    unfold putKey
    rw [length_insert]
    have e2 := List.length_filter_le (notKey kl) ((es.toList.map (rg P k (plainElem (H := Unit) P e))).foldr DataW.insert [])
    rw [length_sorted] at e2
    simp at e2
    omega
  · rw [DataW.put_eq, hput]
theorem w_makeMap {α : Type} [MpRd α] {t kt et : TypeId} {z : α} (hs : Sl N L a) (hw : Wd fx S R E w) (hN : Nat.ble (d + 1) N = true) (hwt : Wanted ops L g)
    (k : ∀ b a w, Sl N ((d, .map (some b)) :: L) a → Wd fx S (mpR P kt et z b ⟨0, fun _ => z⟩ :: R) E w → wpList P ops Q rest a w) : wpList P ops Q (⟨some d, .makeMap t none, ty, pos, af, g⟩ :: rest) a w := by
  refine st_do hs (v := .map (some w.heap.size)) (w' := w.alloc (.map #[] 0)) (fun a h => ?_) hwt rfl hN fun a hs => ?_
  · simp [execOp, run_makeMap]
  · exact k _ _ _ hs (hw.new (grown_alloc _ _ _) ⟨.map [], World.ownsMap_made w P kt (plainElem P et), Maps.isMap_empty, fun x _ => rfl⟩ (fun b hb => by simp only [Res.blk, Option.some.injEq] at hb; subst hb; simp))

theorem y_lookup {α : Type} [MpRd α] {t kt et : TypeId} {z v : α} {zv : Value} {x y : Operand} {b : Nat} {m : Mp α} {j : Int} {dd : Option Tmp} (ho : (mpR P kt et z b m).own w) (ht : P.underlying t = some (.map kt et)) (hk : P.underlying kt = some (.int .i64))
    (he : P.underlying et = some (MpRd.und α)) (hz : ZeroT P et zv) (hzv : zv = MpEl.val z) (hzo : MpEl.ok z = true) (hx : ev L x = some (.map (some b))) (hy : ev L y = some (.int .i64 j)) (hg : m.get j = some v) :
    Yd P ⟨dd, .lookup t x y false, ty, pos, af, g⟩ L w (MpEl.val v) := fun a h => by
  obtain ⟨hr, rfl⟩ := Mp.get_t hg
  obtain ⟨D, hD, hm, hat⟩ := ho
  subst hzv
  obtain ⟨u, ps, hrun, hu⟩ := hD.lookup (Maps.int_keyed hk) ht (hz w) (MpRd.rdm he hzo) (Maps.keyOf_int_mk hk (wf_key hr))
  rw [hat j (wf_key hr)] at hu
  have := MpRd.inv he hu
  subst this
  simp [execOp, h _ _ hx, h _ _ hy, hrun, Result.andThen]

theorem w_mapUpdate {α : Type} [MpRd α] {t kt et : TypeId} {z v : α} {x y u : Operand} {b : Nat} {m m' : Mp α} {j : Int} (hs : Sl N L a) (hw : Wd fx S R E w) (i : Nat) (hr : R[i]? = some (mpR P kt et z b m)) (ht : P.underlying t = some (.map kt et)) (hk : P.underlying kt = some (.int .i64))
    (he : P.underlying et = some (MpRd.und α)) (hx : ev L x = some (.map (some b))) (hy : ev L y = some (.int .i64 j)) (hv : ev L u = some (MpEl.val v)) (hp : m.put j v = some m') (hwt : Wanted ops L g)
    (k : ∀ a w, Sl N L a → Wd fx S (R.set i (mpR P kt et z b m')) E w → wpList P ops Q rest a w) : wpList P ops Q (⟨none, .mapUpdate t x y u, ty, pos, af, g⟩ :: rest) a w := by
  obtain ⟨⟨h1, h2, h3⟩, rfl⟩ := Mp.put_t hp
  obtain ⟨D, hD, hm, hat⟩ := hw.ownAt i hr
  obtain ⟨w', hrun, hD', hgr⟩ := map_update hD (Maps.int_keyed hk) ht (Nat.lt_of_lt_of_le h2 (by decide)) (Maps.keyOf_int_mk hk (wf_key h1)) (MpRd.rdm he h3)
  refine st_do0 hs (w' := w') (fun a h => ?_) hwt rfl fun a hs => ?_
  · simp [execOp, h _ _ hx, h _ _ hy, h _ _ hv, hrun, Result.andThen]
  · refine k _ _ hs (hw.put i hr (r' := mpR P kt et z b ⟨m.n + 1, fun y => if y = j then v else m.at_ y⟩) hgr ⟨_, hD', hm.put _ _, fun x hxw => ?_⟩ (fun c hc => ⟨.inl hc, ?_⟩))
    · by_cases hxj : x = j
      · rw [hxj, Maps.atKey_put_same hm (show WideAt.IsKeyLit (.int .i64 j) from trivial)]
        simp
      · rw [Maps.atKey_put_other (fun e => hxj (by simpa using e)), hat x hxw]
        simp [hxj]
    · have := (hw.at_ _ (List.mem_of_getElem? hr) c hc).2.1
      exact Nat.lt_of_lt_of_le this hgr.size
end steps
end Go.Proofs.YthdimlepjpnncaaGreat.Wk

/- A library for walks over any program: variables that are no longer written (captured ones, arrays that are sliced); elements of arrays. No statement of the seat is used here. -/
import Derived.Test.YtdifjkamipeibaaLibK
namespace Go.Proofs.Ytdifjkamipeibaa.Wk
open Go Go.RowKit Go.Proofs.Ytdifjkamipeibaa.Sh
set_option linter.unusedSimpArgs false
set_option linter.unusedVariables false

section frz
variable {P : Program} {L : Slots} {w : World} {fx : Fx} {S : Nat → Prop} {R : List Res} {E : List Asrt}
variable {ty : TypeId} {pos : String} {af : Array Edge} {g : Option (Nat × Bool)} {dd : Option Tmp}

/-- a variable of the call's own that is written no more: it becomes shared -/
theorem w_freeze (hw : Wd fx S R E w) (i : Nat) {b : Nat} {cs : List Value} {T : TypeId} (hr : R[i]? = some (.box b cs T)) (hX : fx.X = [] ∨ ∃ q c ds U, fx.X = [c] ∧ R[q]? = some (.box c ds U) ∧ Nat.beq q i = false) :
    ∃ S', Wd fx S' (R.eraseIdx i) (CeA b 0 cs :: E) w := by
  have hm := List.mem_of_getElem? hr
  have hfr := (hw.freshOf i hr hX).2 b rfl
  refine ⟨fun c => S c ∨ (Res.box b cs T).blk = some c, ?_⟩
  refine (hw.share i hr (fun c hc => ((hw.freshOf i hr hX).2 c hc).1) (fun c => S c ∨ (Res.box b cs T).blk = some c) (fun _ => Iff.rfl)).addE ?_
  exact ⟨.inr rfl, fun j v hv => by rw [Nat.zero_add]; exact cell_of_list (hw.own _ hm) hv⟩

/-- an array in such a variable, as a slice -/
theorem arr_sl {α : Type} [Enc α] {b o n : Nat} {cs : List Value} {xs : List α} (h : (CeA b 0 cs).p S w) (hn : n = xs.length) (hr : RdL S w ((cs.drop o).take (xs.length * Enc.sz α)) xs) : (SlA (some ⟨b, o, none⟩) xs.length n xs).p S w := by
  subst hn
  refine ⟨rfl, Nat.le_refl _, fun e => (by cases e), fun a ha => ?_⟩
  cases ha
  refine ⟨rfl, fun _ => h.1, fun i hi => ⟨_, ?_, hr.get i hi⟩⟩
  intro j v hv
  have := h.2 (o + i * Enc.sz α + j) v (by
    rw [List.getElem?_take] at hv
    split at hv
    · rw [List.getElem?_drop, List.getElem?_take] at hv
      split at hv
      · rw [List.getElem?_drop] at hv
        rw [← hv]; congr 1; omega
      · cases hv
    · cases hv)
  simpa [Nat.add_assoc] using this

theorem y_sliceArr {t e : TypeId} {x : Operand} {b o n sz : Nat} (hu : UndT P t (.array n e)) (hsz : SzT P e sz) (hx : ev L x = some (.pointer (some ⟨b, o, none⟩))) (hn : Nat.beq n 0 = false) :
    Yd P ⟨dd, .slice t x none none none, ty, pos, af, g⟩ L w (.slice (some ⟨b, o, none⟩) n n) := fun a h => by
  have hn' : n ≠ 0 := Nat.ne_of_beq_eq_false hn
  simp [execOp, h _ _ hx, Instr.sliceAt, Instr.sureAddr, hu, hsz, Instr.sliceBounds, addr_add]

/-- an element of an array's value -/
theorem y_idxA {α : Type} [Enc α] {t e : TypeId} {n : Nat} {x i : Operand} {cs es : List Value} {xs : List α} {y : α} {v : Value} {kk : IntKind} {j : Int} (hu : UndT P t (.array n e)) (hsz : SzT P e (Enc.sz α))
    (hp : (AggT P e false ∧ es = [v]) ∨ (AggT P e true ∧ v = .agg es.toArray)) (hx : ev L x = some (.agg cs.toArray)) (hi : ev L i = some (.int kk j)) (hl : xs.length = n) (hrd : ∀ S w, RdL S w cs xs) (h : ix xs j = some y)
    (hv : ∀ S w c, Enc.rd S w c y → c = es) : Yd P ⟨dd, .index t x i, ty, pos, af, g⟩ L w v := fun a ha => by
  obtain ⟨h0, h1, h2⟩ := ix_t h
  obtain ⟨hlt, he⟩ := List.getElem?_eq_some_iff.1 h2
  have hR := hrd (fun _ => False) w
  have hg := hR.get j.toNat hlt
  rw [he] at hg
  have hes := hv _ _ _ hg
  have hcl := hR.length
  have hjn : 0 ≤ j ∧ j < (n : Int) := by omega
  rcases hp with ⟨ha', rfl⟩ | ⟨ha', rfl⟩
  · have h3 : cs[j.toNat * Enc.sz α]? = some v := by
      have : ((cs.drop (j.toNat * Enc.sz α)).take (Enc.sz α))[0]? = some v := by rw [hes]; rfl
      rw [List.getElem?_take] at this
      split at this
      · rw [List.getElem?_drop] at this; simpa using this
      · cases this
    have h3' : cs.toArray[j.toNat * Enc.sz α]? = some v := by simpa using h3
    simp [execOp, ha _ _ hx, ha _ _ hi, Instr.index, asIntOf, hu, hsz, hjn.1, hjn.2, run_part1 ha' h3']
  · have hln : es.length = Enc.sz α := by rw [← hes, List.length_take, List.length_drop, hcl]; have := mul_add_le (sz := Enc.sz α) hlt; omega
    have h3 : cs.toArray.extract (j.toNat * Enc.sz α) (j.toNat * Enc.sz α + Enc.sz α) = es.toArray := by
      apply Array.ext'
      rw [Array.toList_extract]
      simp only [List.extract_eq_take_drop, Nat.add_sub_cancel_left]
      rw [hes]
    simp [execOp, ha _ _ hx, ha _ _ hi, Instr.index, asIntOf, hu, hsz, hjn.1, hjn.2, run_partA ha' hsz h3]
end frz
end Go.Proofs.Ytdifjkamipeibaa.Wk

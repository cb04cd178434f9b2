/- Opening what came in, whatever its type: out of the reading of the given statement, the reading that the walks ask for. No Go program is named here. -/
import Derived.Test.YthdimlepjpnncaaGreatLibH
import Derived.SizedLaws
namespace Go.Proofs.YthdimlepjpnncaaGreat.Wk
open Go Go.RowKit Go.Proofs.YthdimlepjpnncaaGreat.Sh
open Go.ChangeShapes Go.WideShapes Go.ChangeAt
set_option linter.unusedVariables false

/-- what was read takes no more room than there is -/
def Wts {H : Type} (P : Program) (t : TypeId) (d : DataW H) : Prop := ∀ n ∈ d.weights P t, n ≤ reachBytes
theorem wts_all {H : Type} {P : Program} {e : TypeId} : ∀ {l : List (DataW H)}, (∀ n ∈ DataW.weightsAll P e l, n ≤ reachBytes) → ∀ d ∈ l, Wts P e d
  | [], _, _, h => by cases h
  | a :: l, h, d, hd => by
    simp only [DataW.weightsAll, List.mem_append] at h
    rcases List.mem_cons.1 hd with rfl | hd
    · exact fun n hn => h n (.inl hn)
    · exact wts_all (fun n hn => h n (.inr hn)) d hd
theorem wts_get {H : Type} {P : Program} {e : TypeId} {xs : List (DataW H × List MemPlace)} (h : ∀ n ∈ DataW.weightsAll P e (xs.map (·.1)), n ≤ reachBytes) {i : Nat} {y : DataW H × List MemPlace} (hy : xs[i]? = some y) : Wts P e y.1 :=
  wts_all h y.1 (List.mem_map.2 ⟨y, List.mem_of_getElem? hy, rfl⟩)

/-- cells of the type t read as data of α that are well -/
def OpnT (P : Program) (W : World) (t : TypeId) (α : Type) [Enc α] (G : α → Prop) : Prop :=
  ∀ {H : Type} {enc : TypeId × Value → H} {fuel : Nat} {cs : List Value} {x : DataW H × List MemPlace}, DataW.trod enc P W 0 (fun _ => true) true fuel t cs = some x → Wts P t x.1 → ∃ d : α, Enc.rd (fun b => b < W.heap.size) W cs d ∧ G d

section
variable {P : Program} {W : World} {t : TypeId}
theorem opn_int (ht : P.underlying t = some (.int .i64)) : OpnT P W t Int (fun n => -9223372036854775808 ≤ n ∧ n ≤ 9223372036854775807) := fun h _ => by
  obtain ⟨n, rfl, _, hw⟩ := DataW.trod_int ht h
  exact ⟨n, ⟨_, rfl, rfl⟩, by simpa [Lit.wf, IntKind.min, IntKind.max, IntKind.signed, IntKind.bits] using hw⟩
theorem opn_bool (ht : P.underlying t = some .bool) : OpnT P W t Bool (fun _ => True) := fun h _ => by
  obtain ⟨b, rfl, _⟩ := DataW.trod_bool ht h
  exact ⟨b, ⟨_, rfl, rfl⟩, trivial⟩
theorem opn_string (ht : P.underlying t = some .string) : OpnT P W t ByteArray (fun s => (s.size : Int) ≤ 9223372036854775807) := fun h _ => by
  obtain ⟨s, rfl, _, hs⟩ := DataW.trod_string ht h
  exact ⟨s, ⟨_, rfl, rfl⟩, by simp only [maxLen] at hs; omega⟩
/-- a leaf: one cell -/
theorem OpnT.leaf {α : Type} [Leaf α] {G : α → Prop} (h : OpnT P W t α G) {H : Type} {enc : TypeId × Value → H} {fuel : Nat} {c : Value} {x : DataW H × List MemPlace} (hx : DataW.trod enc P W 0 (fun _ => true) true fuel t [c] = some x) (hz : Wts P t x.1) :
    ∃ d : α, Leaf.rd1 (fun b => b < W.heap.size) W c d ∧ G d := by
  obtain ⟨d, ⟨v, hv, hr⟩, hg⟩ := h hx hz
  simp only [List.cons.injEq, and_true] at hv
  subst hv
  exact ⟨d, hr, hg⟩

theorem cell_lt {a : Addr} {v : Value} (h : W.cell? a = some v) : a.block < W.heap.size ∧ a.spot = none := by
  unfold World.cell? at h
  cases hh : W.heap[a.block]? with
  | none => rw [hh] at h; cases h
  | some o =>
    refine ⟨(Array.getElem?_eq_some_iff.1 hh).1, ?_⟩
    rw [hh] at h
    cases o <;> simp at h
    exact h.1
theorem opn_slice {e : TypeId} {α : Type} [Enc α] {G : α → Prop} (ht : P.underlying t = some (.slice e)) (hsz : P.cellsOf e = Enc.sz α) (hpos : 0 < Enc.sz α) (hby : Nat.ble 1 (P.bytesOf e) = true) (he : OpnT P W e α G) : OpnT P W t (List α) (fun l => (l.length : Int) ≤ 140737488355328 ∧ ∀ d ∈ l, G d) := fun {H enc fuel cs x} h hz => by
  rcases DataW.trod_slice ht h with ⟨rfl, _⟩ | ⟨a, len, cap, elems, rest, n, _, rfl, hxe, _, hl, _, hlen, hel, _, _⟩
  · exact ⟨[], ⟨_, rfl, none, 0, 0, rfl, rfl, Nat.le_refl _, fun _ => rfl, fun _ h => (by cases h)⟩, by simp, fun d h => (by cases h)⟩
  · -- each element
    have hz0 : Wts P t (DataW.slice (elems.map (·.1)) (rest.map (·.1))) := by rw [hxe] at hz; exact hz
    unfold Wts at hz0
    simp only [DataW.weights, ht, List.mem_cons, List.mem_append] at hz0
    have hcap := hz0 _ (.inl rfl)
    have hza : ∀ n ∈ DataW.weightsAll P e (elems.map (·.1)), n ≤ reachBytes := fun n hn => hz0 n (.inr (.inl hn))
    have hlen47 : (len : Int) ≤ 140737488355328 := by
      have h1 := Nat.le_of_ble_eq_true hby
      have h2 : elems.length * 1 ≤ (elems.length + rest.length) * P.bytesOf e := Nat.mul_le_mul (Nat.le_add_right _ _) h1
      simp only [List.length_map] at hcap
      have h3 := reachBytes_lt
      omega
    have hsp0 : 0 < len → a.spot = none := by
      intro hi
      have h1 := hel 0 hi
      have hi2 : 0 < elems.length := by omega
      rw [List.getElem?_eq_getElem hi2, hsz, Option.bind_eq_some_iff] at h1
      obtain ⟨cs, hcs, hy⟩ := h1
      obtain ⟨k1, k2, k3⟩ := World.cells?_some hcs
      have h0 := k3 0 hpos
      have hl0 : 0 < cs.length := by rw [k2]; exact hpos
      rw [List.getElem?_eq_getElem hl0] at h0
      have h2 := (cell_lt h0).2
      simpa [Addr.add] using h2
    have each : ∀ i, i < len → ∃ (d : α) (cs : List Value), CellsAt W a.block (a.off + i * Enc.sz α) cs ∧ Enc.rd (fun b => b < W.heap.size) W cs d ∧ G d ∧ a.spot = none ∧ a.block < W.heap.size := by
      intro i hi
      have h1 := hel i hi
      have hi2 : i < elems.length := by omega
      rw [List.getElem?_eq_getElem hi2, hsz, Option.bind_eq_some_iff] at h1
      obtain ⟨cs, hcs, hy⟩ := h1
      obtain ⟨d, hd, hg⟩ := he hy (wts_get hza (List.getElem?_eq_getElem hi2))
      obtain ⟨k1, k2, k3⟩ := World.cells?_some hcs
      have h0 := k3 0 hpos
      have hl0 : 0 < cs.length := by rw [k2]; exact hpos
      rw [List.getElem?_eq_getElem hl0] at h0
      obtain ⟨q1, q2⟩ := cell_lt h0
      have hsp : a.spot = none := hsp0 (by omega)
      have hbl : a.block < W.heap.size := by rw [block_add, block_add] at q1; exact q1
      refine ⟨d, cs, fun j v hv => ?_, hd, hg, hsp, hbl⟩
      have hjl : j < cs.length := (List.getElem?_eq_some_iff.1 hv).1
      have h2 := k3 j (by omega)
      rw [hv, addr_off hsp, addr_add] at h2
      exact h2
    obtain ⟨l, hll, hl2⟩ : ∃ l : List α, l.length = len ∧ ∀ i (hi : i < l.length), ∃ cs, CellsAt W a.block (a.off + i * Enc.sz α) cs ∧ Enc.rd (fun b => b < W.heap.size) W cs l[i] ∧ G l[i] := by
      have key : ∀ m, m ≤ len → ∃ l : List α, l.length = m ∧ ∀ i (hi : i < l.length), ∃ cs, CellsAt W a.block (a.off + i * Enc.sz α) cs ∧ Enc.rd (fun b => b < W.heap.size) W cs l[i] ∧ G l[i] := by
        intro m
        induction m with
        | zero => exact fun _ => ⟨[], rfl, fun i hi => absurd hi (by simp)⟩
        | succ m ih =>
          intro hm
          obtain ⟨l, h1, h2⟩ := ih (by omega)
          obtain ⟨d, cs, k1, k2, k3, _⟩ := each m (by omega)
          refine ⟨l ++ [d], by simp [h1], fun i hi => ?_⟩
          by_cases hil : i < l.length
          · obtain ⟨cs', q⟩ := h2 i hil
            refine ⟨cs', ?_⟩
            rw [List.getElem_append_left hil]
            exact q
          · have : i = m := by simp at hi; omega
            subst this
            refine ⟨cs, k1, ?_⟩
            have e : (l ++ [d])[i] = d := by simp [← h1]
            rw [e]
            exact ⟨k2, k3⟩
      exact key len (Nat.le_refl _)
    refine ⟨l, ⟨_, rfl, some a, len, cap, rfl, hll.symm, hl, fun h => (by cases h), fun a' ha' => ?_⟩, by omega, fun d hd => ?_⟩
    · cases ha'
      refine ⟨fun h0 => ?_, fun h0 => ?_, fun i hi => ?_⟩
      · obtain ⟨_, _, _, _, _, q, _⟩ := each 0 h0; exact q
      · obtain ⟨_, _, _, _, _, _, q⟩ := each 0 h0; exact q
      · obtain ⟨cs, k1, k2, _⟩ := hl2 i hi
        exact ⟨cs, k1, k2⟩
    · obtain ⟨i, hi, rfl⟩ := List.getElem_of_mem hd
      obtain ⟨_, _, _, q⟩ := hl2 i hi
      exact q
theorem trod_len {H : Type} {enc : TypeId × Value → H} {fuel : Nat} {cs : List Value} {x : DataW H × List MemPlace} {fs : Array Field} (ht : P.underlying t = some (.struct fs)) (h : DataW.trod enc P W 0 (fun _ => true) true fuel t cs = some x) {n : Nat} (hn : P.cellsOf t = n) : cs.length = n := by
  obtain ⟨_, _, _, _, hl, _⟩ := DataW.trod_struct ht h
  rw [hl, hn]
theorem trod_elem {H : Type} {enc : TypeId × Value → H} {fuel : Nat} {cs : List Value} {x : DataW H × List MemPlace} {n : Nat} {e : TypeId} (ht : P.underlying t = some (.array n e)) (h : DataW.trod enc P W 0 (fun _ => true) true fuel t cs = some x) {i sz : Nat} (hi : i < n) (hs : P.cellsOf e = sz) :
    ∃ m y, DataW.trod enc P W 0 (fun _ => true) true m e ((cs.drop (i * sz)).take sz) = some y ∧ (Wts P t x.1 → Wts P e y.1) := by
  obtain ⟨xs, m, _, hx, _, hl, hf⟩ := DataW.trod_array ht h
  subst hs
  have hi2 : i < xs.length := by omega
  refine ⟨m, xs[i], by rw [hf i hi]; simp [hl, hi], fun hz => ?_⟩
  rw [hx] at hz
  unfold Wts at hz
  simp only [DataW.weights, ht] at hz
  exact wts_get hz (List.getElem?_eq_getElem hi2)
/-- .. a field -/
theorem trod_fieldW {H : Type} {enc : TypeId × Value → H} {fuel : Nat} {cs : List Value} {x : DataW H × List MemPlace} {fs : Array Field}
    (ht : P.underlying t = some (.struct fs)) (h : DataW.trod enc P W 0 (fun _ => true) true fuel t cs = some x) {i : Nat} {f : Field} (hi : fs[i]? = some f) {ft o n : Nat} (e1 : f.type = ft) (e2 : f.offset = o) (e3 : P.cellsOf ft = n) :
    ∃ m y, DataW.trod enc P W 0 (fun _ => true) true m ft ((cs.drop o).take n) = some y ∧ (Wts P t x.1 → Wts P ft y.1) := by
  obtain ⟨xs, m, _, hx, _, hl, hf⟩ := DataW.trod_struct ht h
  subst e1; subst e2; subst e3
  have hi0 : i < fs.size := (Array.getElem?_eq_some_iff.1 hi).1
  have hlt : i < xs.length := by rw [hl]; exact hi0
  refine ⟨m, xs[i], by rw [hf i f hi]; simp [hlt], fun hz => ?_⟩
  rw [hx] at hz
  unfold Wts at hz
  simp only [DataW.weights, ht] at hz
  exact fun n hn => hz n (DataW.weights_mem_each (j := i) (t := f.type) (d := xs[i].1) (by rw [List.getElem?_map, Array.getElem?_toList, hi]; rfl) (by rw [List.getElem?_map, List.getElem?_eq_getElem hlt]; rfl) n hn)
theorem trod_lenA {H : Type} {enc : TypeId × Value → H} {fuel : Nat} {cs : List Value} {x : DataW H × List MemPlace} {k : Nat} {e : TypeId} (ht : P.underlying t = some (.array k e)) (h : DataW.trod enc P W 0 (fun _ => true) true fuel t cs = some x) {n : Nat} (hn : P.cellsOf t = n) : cs.length = n := by
  obtain ⟨_, _, _, _, hl, _⟩ := DataW.trod_array ht h
  rw [hl, hn]
end
end Go.Proofs.YthdimlepjpnncaaGreat.Wk

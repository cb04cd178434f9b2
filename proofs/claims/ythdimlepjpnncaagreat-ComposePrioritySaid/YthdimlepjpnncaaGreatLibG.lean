/- From a given statement's arguments to the readings that the walks ask for, and back. No Go program is named here. -/
import Derived.Test.YthdimlepjpnncaaGreatLibF
import Derived.WalkKit
import Derived.ProofKit
import Derived.OpenShut
import Derived.ShutString
import Derived.ChangeOld
import Derived.Below
namespace Go.Proofs.YthdimlepjpnncaaGreat.Wk
open Go Go.RowKit Go.Proofs.YthdimlepjpnncaaGreat.Sh
open Go.ChangeShapes Go.WideShapes Go.ChangeAt

theorem PostW.below {w w' : World} {S S' : Nat → Prop} (h : PostW [] w S w' S') : Below w.heap.size w w' :=
  ⟨h.os, h.tape, h.output, h.size, fun k hk => h.keep k hk (by simp)⟩

theorem okWide_spot {P : Program} {W : World} {r : Reach} {base : Nat} {t e : TypeId} {a : Addr} {l c : Nat} (ht : P.underlying t = some (.slice e)) (h : Value.okWide P W r base t (.slice (some a) l c)) : a.spot = none := by
  simp only [Value.okWide, ht, Cell.okWide, Cell.ok] at h
  exact h.2.2.2.1

theorem addr_off {a : Addr} (h : a.spot = none) (i : Nat) : a.add i = ⟨a.block, a.off + i, none⟩ := by
  obtain ⟨b, o, s⟩ := a
  simp only at h
  subst h
  unfold Addr.add
  split
  · next h0 => subst h0; rfl
  · rfl

/-- a slice of integers that came in -/
theorem rd_ints {k : IntKind} {W : World} {a : Addr} {len cap : Nat} {zs : List Int} (hsp : a.spot = none) (hb : a.block < W.heap.size) (hl : len ≤ cap) (hz : zs.length = cap)
    (hc : ∀ i, i < zs.length → W.cell? (a.add i) = some (.int k (zs.getD i 0)))
    {α : Type} [Leaf α] (f : Int → α) (hf : ∀ S w n, Leaf.rd1 S w (.int k n) (f n)) :
    (SlA (some a) ((zs.take len).map f).length cap ((zs.take len).map f)).p (fun b => b < W.heap.size) W := by
  refine ⟨rfl, by simp; omega, fun h => (by cases h), fun b hb' => ?_⟩
  cases hb'
  refine ⟨fun _ => hsp, fun _ => hb, fun i hi => ?_⟩
  have hi' : i < zs.length := by simp at hi; omega
  refine ⟨[.int k (zs.getD i 0)], fun j v hv => ?_, _, rfl, ?_⟩
  · cases j with
    | zero =>
      have := hc i hi'
      rw [addr_off hsp] at this
      simp only [List.getElem?_cons_zero, Option.some.injEq] at hv
      rw [← hv]
      simpa [Enc.sz] using this
    | succ j => simp at hv
  · have : ((zs.take len).map f)[i] = f (zs.getD i 0) := by
      simp [List.getElem_map, List.getElem_take, List.getD_eq_getElem?_getD, hi']
    rw [this]
    exact hf _ _ _

theorem rd_nil {W : World} {α : Type} [Enc α] {S : Nat → Prop} : (SlA (α := α) none ([] : List α).length 0 []).p S W :=
  ⟨rfl, Nat.le_refl _, fun _ => rfl, fun _ h => by cases h⟩

/-- a slice of Go's int that came in: a list, its numbers in their range -/
theorem open_list {P : Program} {H : Type} {enc : TypeId × Value → H} {t e : TypeId} {fuel : Nat} {W : World} {base : Nat} {a : Option Addr} {len cap : Nat} {held : Bool} {x : DataW H × List MemPlace}
    (ht : P.underlying t = some (.slice e)) (he : P.underlying e = some (.int .i64)) (hc : P.cellsOf e = 1) (hok : Value.okWide P W .any base t (.slice a len cap))
    (hf : DataW.trod enc P W 0 (fun _ => true) held fuel t [.slice a len cap] = some x) :
    ∃ l : List Int, len = l.length ∧ (SlA a l.length cap l).p (fun b => b < W.heap.size) W ∧ ∀ n ∈ l, -9223372036854775808 ≤ n ∧ n ≤ 9223372036854775807 := by
  rcases open_ints ht he hc hf with ⟨hcs, _⟩ | ⟨x', l, c, zs, hcs, _, hl, hm, hz, hx, hcell, hwz⟩
  · simp at hcs
    obtain ⟨rfl, rfl, rfl⟩ := hcs
    exact ⟨[], rfl, rd_nil, by simp⟩
  · simp at hcs
    obtain ⟨rfl, rfl, rfl⟩ := hcs
    have hz' : zs.length = cap := by simpa using hz
    have hsp := okWide_spot ht hok
    refine ⟨zs.take len, by simp; omega, ?_, fun n hn => ?_⟩
    · by_cases h0 : cap = 0
      · have : zs = [] := List.eq_nil_of_length_eq_zero (by omega)
        subst this
        have : len = 0 := by omega
        subst this
        simp only [List.take_nil]
        refine ⟨rfl, by omega, fun h => (by cases h), fun b hb' => ?_⟩
        cases hb'
        exact ⟨fun _ => hsp, fun h => absurd h (Nat.lt_irrefl _), fun i hi => absurd hi (by simp)⟩
      · have hb : x'.block < W.heap.size := by
          have := hcell 0 (by omega)
          rw [addr_off hsp] at this
          unfold World.cell? at this
          simp only at this
          cases hh : W.heap[x'.block]? with
          | none => rw [hh] at this; cases this
          | some o => exact (Array.getElem?_eq_some_iff.1 hh).1
        have := rd_ints hsp hb hl hz' hcell (α := Int) id (fun S w n => rfl)
        simpa using this
    · have := hwz n (List.mem_of_mem_take hn)
      simpa [Lit.wf, IntKind.min, IntKind.max, IntKind.signed, IntKind.bits] using this

end Go.Proofs.YthdimlepjpnncaaGreat.Wk

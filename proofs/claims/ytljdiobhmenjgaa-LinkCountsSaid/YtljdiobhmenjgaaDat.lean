/- How the data of the Go types lie in memory. -/
import Derived.Test.YtljdiobhmenjgaaLibF
import Derived.Test.YtljdiobhmenjgaaShData
namespace Go.Proofs.Ytljdiobhmenjgaa.Wk
open Go Go.RowKit Go.Proofs.Ytljdiobhmenjgaa.Sh
instance encTransit : Enc Transit where
  sz := 3
  val := fun cs => .agg cs.toArray
  rd := fun S w cs d => ∃ c0 c1 c2 : Value, cs = [c0, c1, c2] ∧ Leaf.rd1 S w c0 d.At ∧ Leaf.rd1 S w c1 d.Order ∧ Leaf.rd1 S w c2 d.Data
  mono := fun hk ⟨c0, c1, c2, h, h0, h1, h2⟩ => ⟨c0, c1, c2, h, Leaf.mono hk h0, Leaf.mono hk h1, Leaf.mono hk h2⟩
  len := fun ⟨c0, c1, c2, h, _, _, _⟩ => (by rw [h]; rfl)
  one := fun ⟨c0, c1, c2, h, h0, h1, h2⟩ c hc => (by
    rw [h] at hc
    simp only [List.mem_cons, List.not_mem_nil, or_false] at hc
    rcases hc with rfl | rfl | rfl
    · exact Leaf.one h0
    · exact Leaf.one h1
    · exact Leaf.one h2)

instance encWire : Enc Wire where
  sz := 3
  val := fun cs => .agg cs.toArray
  rd := fun S w cs d => ∃ c0 c1 c2 : Value, cs = [c0, c1, c2] ∧ Leaf.rd1 S w c0 d.Now ∧ Leaf.rd1 S w c1 d.Order ∧ Leaf.rd1 S w c2 d.Items
  mono := fun hk ⟨c0, c1, c2, h, h0, h1, h2⟩ => ⟨c0, c1, c2, h, Leaf.mono hk h0, Leaf.mono hk h1, Leaf.mono hk h2⟩
  len := fun ⟨c0, c1, c2, h, _, _, _⟩ => (by rw [h]; rfl)
  one := fun ⟨c0, c1, c2, h, h0, h1, h2⟩ c hc => (by
    rw [h] at hc
    simp only [List.mem_cons, List.not_mem_nil, or_false] at hc
    rcases hc with rfl | rfl | rfl
    · exact Leaf.one h0
    · exact Leaf.one h1
    · exact Leaf.one h2)

instance encFault : Enc Fault where
  sz := 3
  val := fun cs => .agg cs.toArray
  rd := fun S w cs d => ∃ c0 c1 c2 : Value, cs = [c0, c1, c2] ∧ Leaf.rd1 S w c0 d.Drop ∧ Leaf.rd1 S w c1 d.Delay ∧ Leaf.rd1 S w c2 d.Copies
  mono := fun hk ⟨c0, c1, c2, h, h0, h1, h2⟩ => ⟨c0, c1, c2, h, Leaf.mono hk h0, Leaf.mono hk h1, Leaf.mono hk h2⟩
  len := fun ⟨c0, c1, c2, h, _, _, _⟩ => (by rw [h]; rfl)
  one := fun ⟨c0, c1, c2, h, h0, h1, h2⟩ c hc => (by
    rw [h] at hc
    simp only [List.mem_cons, List.not_mem_nil, or_false] at hc
    rcases hc with rfl | rfl | rfl
    · exact Leaf.one h0
    · exact Leaf.one h1
    · exact Leaf.one h2)

instance encDice : Enc Dice where
  sz := 2
  val := fun cs => .agg cs.toArray
  rd := fun S w cs d => ∃ c0 c1 : Value, cs = [c0, c1] ∧ Leaf.rd1 S w c0 d.L ∧ Leaf.rd1 S w c1 d.At
  mono := fun hk ⟨c0, c1, h, h0, h1⟩ => ⟨c0, c1, h, Leaf.mono hk h0, Leaf.mono hk h1⟩
  len := fun ⟨c0, c1, h, _, _⟩ => (by rw [h]; rfl)
  one := fun ⟨c0, c1, h, h0, h1⟩ c hc => (by
    rw [h] at hc
    simp only [List.mem_cons, List.not_mem_nil, or_false] at hc
    rcases hc with rfl | rfl
    · exact Leaf.one h0
    · exact Leaf.one h1)

end Go.Proofs.Ytljdiobhmenjgaa.Wk

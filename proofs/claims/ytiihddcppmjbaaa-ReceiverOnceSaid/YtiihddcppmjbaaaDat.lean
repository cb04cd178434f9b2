/- How the data of the Go types lie in memory. -/
import Derived.Test.YtiihddcppmjbaaaLibF
import Derived.Test.YtiihddcppmjbaaaShData
namespace Go.Proofs.Ytiihddcppmjbaaa.Wk
open Go Go.RowKit Go.Proofs.Ytiihddcppmjbaaa.Sh
instance encSpan : Enc Span where
  sz := 2
  val := fun cs => .agg cs.toArray
  rd := fun S w cs d => ∃ c0 c1 : Value, cs = [c0, c1] ∧ Leaf.rd1 S w c0 d.From ∧ Leaf.rd1 S w c1 d.To
  mono := fun hk ⟨c0, c1, h, h0, h1⟩ => ⟨c0, c1, h, Leaf.mono hk h0, Leaf.mono hk h1⟩
  len := fun ⟨c0, c1, h, _, _⟩ => (by rw [h]; rfl)
  one := fun ⟨c0, c1, h, h0, h1⟩ c hc => (by
    rw [h] at hc
    simp only [List.mem_cons, List.not_mem_nil, or_false] at hc
    rcases hc with rfl | rfl
    · exact Leaf.one h0
    · exact Leaf.one h1)

instance encReceiver : Enc Receiver where
  sz := 2
  val := fun cs => .agg cs.toArray
  rd := fun S w cs d => ∃ c0 c1 : Value, cs = [c0, c1] ∧ Leaf.rd1 S w c0 d.Got ∧ Leaf.rd1 S w c1 d.Lost
  mono := fun hk ⟨c0, c1, h, h0, h1⟩ => ⟨c0, c1, h, Leaf.mono hk h0, Leaf.mono hk h1⟩
  len := fun ⟨c0, c1, h, _, _⟩ => (by rw [h]; rfl)
  one := fun ⟨c0, c1, h, h0, h1⟩ c hc => (by
    rw [h] at hc
    simp only [List.mem_cons, List.not_mem_nil, or_false] at hc
    rcases hc with rfl | rfl
    · exact Leaf.one h0
    · exact Leaf.one h1)

instance encDice : Enc Dice where
  sz := 2
  val := fun cs => .agg cs.toArray
  rd := fun S w cs d => ∃ c0 c1 : Value, cs = [c0, c1] ∧ Leaf.rd1 S w c0 d.L ∧ Leaf.rd1 S w c1 d.At
  mono := fun hk ⟨c0, c1, h, h0, h1⟩ => ⟨c0, c1, h, Leaf.mono hk h0, Leaf.mono hk h1⟩
  len := fun ⟨c0, c1, h, _, _⟩ => (by rw [h]; rfl)
  one := fun ⟨c0, c1, h, h0, h1⟩ c hc => (by
    rw [h] at hc
    simp only [List.mem_cons, List.not_mem_nil, or_false] at hc
    rcases hc with rfl | rfl
    · exact Leaf.one h0
    · exact Leaf.one h1)

end Go.Proofs.Ytiihddcppmjbaaa.Wk

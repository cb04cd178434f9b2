/- How the data of the Go types lie in memory. -/
import Derived.Test.YtoendkojgjobbaaLibF
import Derived.Test.YtoendkojgjobbaaShData
namespace Go.Proofs.Ytoendkojgjobbaa.Wk
open Go Go.RowKit Go.Proofs.Ytoendkojgjobbaa.Sh
instance encStage : Enc Stage where
  sz := 10
  val := fun cs => .agg cs.toArray
  rd := fun S w cs d => ∃ c0 c1 c2 c3 c4 c5 c6 c7 c8 c9 : Value, cs = [c0, c1, c2, c3, c4, c5, c6, c7, c8, c9] ∧ Leaf.rd1 S w c0 d.Kind ∧ Leaf.rd1 S w c1 d.Num.e0 ∧ Leaf.rd1 S w c2 d.Num.e1 ∧ Leaf.rd1 S w c3 d.Num.e2 ∧ Leaf.rd1 S w c4 d.Den.e0 ∧ Leaf.rd1 S w c5 d.Den.e1 ∧ Leaf.rd1 S w c6 d.Den.e2 ∧ Leaf.rd1 S w c7 d.Taps ∧ Leaf.rd1 S w c8 d.Factor ∧ Leaf.rd1 S w c9 d.Shift
  mono := fun hk ⟨c0, c1, c2, c3, c4, c5, c6, c7, c8, c9, h, h0, h1, h2, h3, h4, h5, h6, h7, h8, h9⟩ => ⟨c0, c1, c2, c3, c4, c5, c6, c7, c8, c9, h, Leaf.mono hk h0, Leaf.mono hk h1, Leaf.mono hk h2, Leaf.mono hk h3, Leaf.mono hk h4, Leaf.mono hk h5, Leaf.mono hk h6, Leaf.mono hk h7, Leaf.mono hk h8, Leaf.mono hk h9⟩
  len := fun ⟨c0, c1, c2, c3, c4, c5, c6, c7, c8, c9, h, _, _, _, _, _, _, _, _, _, _⟩ => (by rw [h]; rfl)
  one := fun ⟨c0, c1, c2, c3, c4, c5, c6, c7, c8, c9, h, h0, h1, h2, h3, h4, h5, h6, h7, h8, h9⟩ c hc => (by
    rw [h] at hc
    simp only [List.mem_cons, List.not_mem_nil, or_false] at hc
    rcases hc with rfl | rfl | rfl | rfl | rfl | rfl | rfl | rfl | rfl | rfl
    · exact Leaf.one h0
    · exact Leaf.one h1
    · exact Leaf.one h2
    · exact Leaf.one h3
    · exact Leaf.one h4
    · exact Leaf.one h5
    · exact Leaf.one h6
    · exact Leaf.one h7
    · exact Leaf.one h8
    · exact Leaf.one h9)

instance encResponse : Enc Response where
  sz := 1
  val := fun cs => .agg cs.toArray
  rd := fun S w cs d => ∃ c0 : Value, cs = [c0] ∧ Leaf.rd1 S w c0 d.Stages
  mono := fun hk ⟨c0, h, h0⟩ => ⟨c0, h, Leaf.mono hk h0⟩
  len := fun ⟨c0, h, _⟩ => (by rw [h]; rfl)
  one := fun ⟨c0, h, h0⟩ c hc => (by
    rw [h] at hc
    simp only [List.mem_cons, List.not_mem_nil, or_false] at hc
    rcases hc with rfl
    · exact Leaf.one h0)

instance encRate : Enc Rate where
  sz := 2
  val := fun cs => .agg cs.toArray
  rd := fun S w cs d => ∃ c0 c1 : Value, cs = [c0, c1] ∧ Leaf.rd1 S w c0 d.Num ∧ Leaf.rd1 S w c1 d.Den
  mono := fun hk ⟨c0, c1, h, h0, h1⟩ => ⟨c0, c1, h, Leaf.mono hk h0, Leaf.mono hk h1⟩
  len := fun ⟨c0, c1, h, _, _⟩ => (by rw [h]; rfl)
  one := fun ⟨c0, c1, h, h0, h1⟩ c hc => (by
    rw [h] at hc
    simp only [List.mem_cons, List.not_mem_nil, or_false] at hc
    rcases hc with rfl | rfl
    · exact Leaf.one h0
    · exact Leaf.one h1)

instance encFraction : Enc Fraction where
  sz := 2
  val := fun cs => .agg cs.toArray
  rd := fun S w cs d => ∃ c0 c1 : Value, cs = [c0, c1] ∧ Leaf.rd1 S w c0 d.Num ∧ Leaf.rd1 S w c1 d.Den
  mono := fun hk ⟨c0, c1, h, h0, h1⟩ => ⟨c0, c1, h, Leaf.mono hk h0, Leaf.mono hk h1⟩
  len := fun ⟨c0, c1, h, _, _⟩ => (by rw [h]; rfl)
  one := fun ⟨c0, c1, h, h0, h1⟩ c hc => (by
    rw [h] at hc
    simp only [List.mem_cons, List.not_mem_nil, or_false] at hc
    rcases hc with rfl | rfl
    · exact Leaf.one h0
    · exact Leaf.one h1)

instance encRatio : Enc Ratio where
  sz := 2
  val := fun cs => .agg cs.toArray
  rd := fun S w cs d => ∃ c0 c1 : Value, cs = [c0, c1] ∧ Leaf.rd1 S w c0 d.Num ∧ Leaf.rd1 S w c1 d.Den
  mono := fun hk ⟨c0, c1, h, h0, h1⟩ => ⟨c0, c1, h, Leaf.mono hk h0, Leaf.mono hk h1⟩
  len := fun ⟨c0, c1, h, _, _⟩ => (by rw [h]; rfl)
  one := fun ⟨c0, c1, h, h0, h1⟩ c hc => (by
    rw [h] at hc
    simp only [List.mem_cons, List.not_mem_nil, or_false] at hc
    rcases hc with rfl | rfl
    · exact Leaf.one h0
    · exact Leaf.one h1)

instance encDice : Enc Dice where
  sz := 2
  val := fun cs => .agg cs.toArray
  rd := fun S w cs d => ∃ c0 c1 : Value, cs = [c0, c1] ∧ Leaf.rd1 S w c0 d.L ∧ Leaf.rd1 S w c1 d.At
  mono := fun hk ⟨c0, c1, h, h0, h1⟩ => ⟨c0, c1, h, Leaf.mono hk h0, Leaf.mono hk h1⟩
  len := fun ⟨c0, c1, h, _, _⟩ => (by rw [h]; rfl)
  one := fun ⟨c0, c1, h, h0, h1⟩ c hc => (by
    rw [h] at hc
    simp only [List.mem_cons, List.not_mem_nil, or_false] at hc
    rcases hc with rfl | rfl
    · exact Leaf.one h0
    · exact Leaf.one h1)

instance encArr_1 : Enc (Arr2 Int) where
  sz := 2
  val := fun cs => .agg cs.toArray
  rd := fun S w cs d => ∃ c0 c1 : Value, cs = [c0, c1] ∧ Leaf.rd1 S w c0 d.e0 ∧ Leaf.rd1 S w c1 d.e1
  mono := fun hk ⟨c0, c1, h, h0, h1⟩ => ⟨c0, c1, h, Leaf.mono hk h0, Leaf.mono hk h1⟩
  len := fun ⟨c0, c1, h, _, _⟩ => (by rw [h]; rfl)
  one := fun ⟨c0, c1, h, h0, h1⟩ c hc => (by
    rw [h] at hc
    simp only [List.mem_cons, List.not_mem_nil, or_false] at hc
    rcases hc with rfl | rfl
    · exact Leaf.one h0
    · exact Leaf.one h1)

instance encArr_2 : Enc (Arr3 Int) where
  sz := 3
  val := fun cs => .agg cs.toArray
  rd := fun S w cs d => ∃ c0 c1 c2 : Value, cs = [c0, c1, c2] ∧ Leaf.rd1 S w c0 d.e0 ∧ Leaf.rd1 S w c1 d.e1 ∧ Leaf.rd1 S w c2 d.e2
  mono := fun hk ⟨c0, c1, c2, h, h0, h1, h2⟩ => ⟨c0, c1, c2, h, Leaf.mono hk h0, Leaf.mono hk h1, Leaf.mono hk h2⟩
  len := fun ⟨c0, c1, c2, h, _, _, _⟩ => (by rw [h]; rfl)
  one := fun ⟨c0, c1, c2, h, h0, h1, h2⟩ c hc => (by
    rw [h] at hc
    simp only [List.mem_cons, List.not_mem_nil, or_false] at hc
    rcases hc with rfl | rfl | rfl
    · exact Leaf.one h0
    · exact Leaf.one h1
    · exact Leaf.one h2)

end Go.Proofs.Ytoendkojgjobbaa.Wk

/- How the data of the Go types lie in memory. -/
import Derived.Test.YthdimlepjpnncaaGreatLa1
import Derived.Test.YthdimlepjpnncaaGreatShData
import Derived.Test.YthdimlepjpnncaaGreatLr1
namespace Go.Proofs.YthdimlepjpnncaaGreat.Wk
open Go Go.RowKit Go.Proofs.YthdimlepjpnncaaGreat.Sh
instance encSourceID : Enc SourceID where
  sz := 4
  val := fun cs => .agg cs.toArray
  rd := fun S w cs d => ∃ c0 c1 c2 c3 : Value, cs = [c0, c1, c2, c3] ∧ Leaf.rd1 S w c0 d.Network ∧ Leaf.rd1 S w c1 d.Station ∧ Leaf.rd1 S w c2 d.Location ∧ Leaf.rd1 S w c3 d.Channel
  mono := fun hk ⟨c0, c1, c2, c3, h, h0, h1, h2, h3⟩ => ⟨c0, c1, c2, c3, h, Leaf.mono hk h0, Leaf.mono hk h1, Leaf.mono hk h2, Leaf.mono hk h3⟩
  len := fun ⟨c0, c1, c2, c3, h, _, _, _, _⟩ => (by rw [h]; rfl)
  one := fun ⟨c0, c1, c2, c3, h, h0, h1, h2, h3⟩ c hc => (by
    rw [h] at hc
    simp only [List.mem_cons, List.not_mem_nil, or_false] at hc
    rcases hc with rfl | rfl | rfl | rfl
    · exact Leaf.one h0
    · exact Leaf.one h1
    · exact Leaf.one h2
    · exact Leaf.one h3)
instance encRate : Enc Rate where
  sz := 2
  val := fun cs => .agg cs.toArray
  rd := fun S w cs d => ∃ c0 c1 : Value, cs = [c0, c1] ∧ Leaf.rd1 S w c0 d.Num ∧ Leaf.rd1 S w c1 d.Den
  mono := fun hk ⟨c0, c1, h, h0, h1⟩ => ⟨c0, c1, h, Leaf.mono hk h0, Leaf.mono hk h1⟩
  len := fun ⟨c0, c1, h, _, _⟩ => (by rw [h]; rfl)
  one := fun ⟨c0, c1, h, h0, h1⟩ c hc => (by
    rw [h] at hc
    simp only [List.mem_cons, List.not_mem_nil, or_false] at hc
    rcases hc with rfl | rfl
    · exact Leaf.one h0
    · exact Leaf.one h1)
instance encRecord : Enc Record where
  sz := 12
  val := fun cs => .agg cs.toArray
  rd := fun S w cs d => ∃ c0 c1 c2 c3 c4 c5 c6 c7 c8 c9 c10 c11 : Value, cs = [c0, c1, c2, c3, c4, c5, c6, c7, c8, c9, c10, c11] ∧ Leaf.rd1 S w c0 d.Source.Network ∧ Leaf.rd1 S w c1 d.Source.Station ∧ Leaf.rd1 S w c2 d.Source.Location ∧ Leaf.rd1 S w c3 d.Source.Channel ∧ Leaf.rd1 S w c4 d.Start ∧ Leaf.rd1 S w c5 d.First ∧ Leaf.rd1 S w c6 d.Rate.Num ∧ Leaf.rd1 S w c7 d.Rate.Den ∧ Leaf.rd1 S w c8 d.Error ∧ Leaf.rd1 S w c9 d.Run ∧ Leaf.rd1 S w c10 d.Seq ∧ Leaf.rd1 S w c11 d.Samples
  mono := fun hk ⟨c0, c1, c2, c3, c4, c5, c6, c7, c8, c9, c10, c11, h, h0, h1, h2, h3, h4, h5, h6, h7, h8, h9, h10, h11⟩ => ⟨c0, c1, c2, c3, c4, c5, c6, c7, c8, c9, c10, c11, h, Leaf.mono hk h0, Leaf.mono hk h1, Leaf.mono hk h2, Leaf.mono hk h3, Leaf.mono hk h4, Leaf.mono hk h5, Leaf.mono hk h6, Leaf.mono hk h7, Leaf.mono hk h8, Leaf.mono hk h9, Leaf.mono hk h10, Leaf.mono hk h11⟩
  len := fun ⟨c0, c1, c2, c3, c4, c5, c6, c7, c8, c9, c10, c11, h, _, _, _, _, _, _, _, _, _, _, _, _⟩ => (by rw [h]; rfl)
  one := fun ⟨c0, c1, c2, c3, c4, c5, c6, c7, c8, c9, c10, c11, h, h0, h1, h2, h3, h4, h5, h6, h7, h8, h9, h10, h11⟩ c hc => (by
    rw [h] at hc
    simp only [List.mem_cons, List.not_mem_nil, or_false] at hc
    rcases hc with rfl | rfl | rfl | rfl | rfl | rfl | rfl | rfl | rfl | rfl | rfl | rfl
    · exact Leaf.one h0
    · exact Leaf.one h1
    · exact Leaf.one h2
    · exact Leaf.one h3
    · exact Leaf.one h4
    · exact Leaf.one h5
    · exact Leaf.one h6
    · exact Leaf.one h7
    · exact Leaf.one h8
    · exact Leaf.one h9
    · exact Leaf.one h10
    · exact Leaf.one h11)
instance encSpan : Enc Span where
  sz := 2
  val := fun cs => .agg cs.toArray
  rd := fun S w cs d => ∃ c0 c1 : Value, cs = [c0, c1] ∧ Leaf.rd1 S w c0 d.From ∧ Leaf.rd1 S w c1 d.To
  mono := fun hk ⟨c0, c1, h, h0, h1⟩ => ⟨c0, c1, h, Leaf.mono hk h0, Leaf.mono hk h1⟩
  len := fun ⟨c0, c1, h, _, _⟩ => (by rw [h]; rfl)
  one := fun ⟨c0, c1, h, h0, h1⟩ c hc => (by
    rw [h] at hc
    simp only [List.mem_cons, List.not_mem_nil, or_false] at hc
    rcases hc with rfl | rfl
    · exact Leaf.one h0
    · exact Leaf.one h1)
instance encDice : Enc Dice where
  sz := 2
  val := fun cs => .agg cs.toArray
  rd := fun S w cs d => ∃ c0 c1 : Value, cs = [c0, c1] ∧ Leaf.rd1 S w c0 d.L ∧ Leaf.rd1 S w c1 d.At
  mono := fun hk ⟨c0, c1, h, h0, h1⟩ => ⟨c0, c1, h, Leaf.mono hk h0, Leaf.mono hk h1⟩
  len := fun ⟨c0, c1, h, _, _⟩ => (by rw [h]; rfl)
  one := fun ⟨c0, c1, h, h0, h1⟩ c hc => (by
    rw [h] at hc
    simp only [List.mem_cons, List.not_mem_nil, or_false] at hc
    rcases hc with rfl | rfl
    · exact Leaf.one h0
    · exact Leaf.one h1)
instance encCompose_sample : Enc Compose_sample where
  sz := 3
  val := fun cs => .agg cs.toArray
  rd := fun S w cs d => ∃ c0 c1 c2 : Value, cs = [c0, c1, c2] ∧ Leaf.rd1 S w c0 d.from_ ∧ Leaf.rd1 S w c1 d.to_ ∧ Leaf.rd1 S w c2 d.value_
  mono := fun hk ⟨c0, c1, c2, h, h0, h1, h2⟩ => ⟨c0, c1, c2, h, Leaf.mono hk h0, Leaf.mono hk h1, Leaf.mono hk h2⟩
  len := fun ⟨c0, c1, c2, h, _, _, _⟩ => (by rw [h]; rfl)
  one := fun ⟨c0, c1, c2, h, h0, h1, h2⟩ c hc => (by
    rw [h] at hc
    simp only [List.mem_cons, List.not_mem_nil, or_false] at hc
    rcases hc with rfl | rfl | rfl
    · exact Leaf.one h0
    · exact Leaf.one h1
    · exact Leaf.one h2)
instance : MoEl Compose_sample where
  val := fun x => .agg #[.int .i64 x.from_, .int .i64 x.to_, .int .i64 x.value_]
  cod := fun x => .agg [.lit (.int .i64 x.from_), .lit (.int .i64 x.to_), .lit (.int .i64 x.value_)]
  vinj := by rintro ⟨⟩ ⟨⟩ h; simpa using h
  cinj := by rintro ⟨⟩ ⟨⟩ h; simpa using h
end Go.Proofs.YthdimlepjpnncaaGreat.Wk

/- How the data of the Go types lie in memory. -/
import Derived.Test.YtdcafiefjakfeaaGreatLa1
import Derived.Test.YtdcafiefjakfeaaGreatShData
namespace Go.Proofs.YtdcafiefjakfeaaGreat.Wk
open Go Go.RowKit Go.Proofs.YtdcafiefjakfeaaGreat.Sh
instance encSourceID:Enc SourceID where
  sz:=4
  val:=fun cs=>.agg cs.toArray
  rd:=fun S w cs d=>∃ c0 c1 c2 c3:Value,cs=[c0,c1,c2,c3]∧Leaf.rd1 S w c0 d.Network∧Leaf.rd1 S w c1 d.Station∧Leaf.rd1 S w c2 d.Location∧Leaf.rd1 S w c3 d.Channel
  mono:=fun hk ⟨c0,c1,c2,c3,h,h0,h1,h2,h3⟩=>⟨c0,c1,c2,c3,h,Leaf.mono hk h0,Leaf.mono hk h1,Leaf.mono hk h2,Leaf.mono hk h3⟩
  len:=fun ⟨c0,c1,c2,c3,h,_,_,_,_⟩=>(by rw [h];rfl)
  one:=fun ⟨c0,c1,c2,c3,h,h0,h1,h2,h3⟩ c hc=>(by
    rw [h] at hc
    simp only [List.mem_cons,List.not_mem_nil,or_false] at hc
    rcases hc with rfl | rfl | rfl | rfl
    · exact Leaf.one h0
    · exact Leaf.one h1
    · exact Leaf.one h2
    · exact Leaf.one h3)
instance encRate:Enc Rate where
  sz:=2
  val:=fun cs=>.agg cs.toArray
  rd:=fun S w cs d=>∃ c0 c1:Value,cs=[c0,c1]∧Leaf.rd1 S w c0 d.Num∧Leaf.rd1 S w c1 d.Den
  mono:=fun hk ⟨c0,c1,h,h0,h1⟩=>⟨c0,c1,h,Leaf.mono hk h0,Leaf.mono hk h1⟩
  len:=fun ⟨c0,c1,h,_,_⟩=>(by rw [h];rfl)
  one:=fun ⟨c0,c1,h,h0,h1⟩ c hc=>(by
    rw [h] at hc
    simp only [List.mem_cons,List.not_mem_nil,or_false] at hc
    rcases hc with rfl | rfl
    · exact Leaf.one h0
    · exact Leaf.one h1)
instance encRecord:Enc Record where
  sz:=12
  val:=fun cs=>.agg cs.toArray
  rd:=fun S w cs d=>∃ c0 c1 c2 c3 c4 c5 c6 c7 c8 c9 c10 c11:Value,cs=[c0,c1,c2,c3,c4,c5,c6,c7,c8,c9,c10,c11]∧Leaf.rd1 S w c0 d.Source.Network∧Leaf.rd1 S w c1 d.Source.Station∧Leaf.rd1 S w c2 d.Source.Location∧Leaf.rd1 S w c3 d.Source.Channel∧Leaf.rd1 S w c4 d.Start∧Leaf.rd1 S w c5 d.First∧Leaf.rd1 S w c6 d.Rate.Num∧Leaf.rd1 S w c7 d.Rate.Den∧Leaf.rd1 S w c8 d.Error∧Leaf.rd1 S w c9 d.Run∧Leaf.rd1 S w c10 d.Seq∧Leaf.rd1 S w c11 d.Samples
  mono:=fun hk ⟨c0,c1,c2,c3,c4,c5,c6,c7,c8,c9,c10,c11,h,h0,h1,h2,h3,h4,h5,h6,h7,h8,h9,h10,h11⟩=>⟨c0,c1,c2,c3,c4,c5,c6,c7,c8,c9,c10,c11,h,Leaf.mono hk h0,Leaf.mono hk h1,Leaf.mono hk h2,Leaf.mono hk h3,Leaf.mono hk h4,Leaf.mono hk h5,Leaf.mono hk h6,Leaf.mono hk h7,Leaf.mono hk h8,Leaf.mono hk h9,Leaf.mono hk h10,Leaf.mono hk h11⟩
  len:=fun ⟨c0,c1,c2,c3,c4,c5,c6,c7,c8,c9,c10,c11,h,_,_,_,_,_,_,_,_,_,_,_,_⟩=>(by rw [h];rfl)
  one:=fun ⟨c0,c1,c2,c3,c4,c5,c6,c7,c8,c9,c10,c11,h,h0,h1,h2,h3,h4,h5,h6,h7,h8,h9,h10,h11⟩ c hc=>(by
    rw [h] at hc
    simp only [List.mem_cons,List.not_mem_nil,or_false] at hc
    rcases hc with rfl | rfl | rfl | rfl | rfl | rfl | rfl | rfl | rfl | rfl | rfl | rfl
    · exact Leaf.one h0
    · exact Leaf.one h1
    · exact Leaf.one h2
    · exact Leaf.one h3
    · exact Leaf.one h4
    · exact Leaf.one h5
    · exact Leaf.one h6
    · exact Leaf.one h7
    · exact Leaf.one h8
    · exact Leaf.one h9
    · exact Leaf.one h10
    · exact Leaf.one h11)
instance encSegment:Enc Segment where
  sz:=6
  val:=fun cs=>.agg cs.toArray
  rd:=fun S w cs d=>∃ c0 c1 c2 c3 c4 c5:Value,cs=[c0,c1,c2,c3,c4,c5]∧Leaf.rd1 S w c0 d.Start∧Leaf.rd1 S w c1 d.First∧Leaf.rd1 S w c2 d.Rate.Num∧Leaf.rd1 S w c3 d.Rate.Den∧Leaf.rd1 S w c4 d.Error∧Leaf.rd1 S w c5 d.Samples
  mono:=fun hk ⟨c0,c1,c2,c3,c4,c5,h,h0,h1,h2,h3,h4,h5⟩=>⟨c0,c1,c2,c3,c4,c5,h,Leaf.mono hk h0,Leaf.mono hk h1,Leaf.mono hk h2,Leaf.mono hk h3,Leaf.mono hk h4,Leaf.mono hk h5⟩
  len:=fun ⟨c0,c1,c2,c3,c4,c5,h,_,_,_,_,_,_⟩=>(by rw [h];rfl)
  one:=fun ⟨c0,c1,c2,c3,c4,c5,h,h0,h1,h2,h3,h4,h5⟩ c hc=>(by
    rw [h] at hc
    simp only [List.mem_cons,List.not_mem_nil,or_false] at hc
    rcases hc with rfl | rfl | rfl | rfl | rfl | rfl
    · exact Leaf.one h0
    · exact Leaf.one h1
    · exact Leaf.one h2
    · exact Leaf.one h3
    · exact Leaf.one h4
    · exact Leaf.one h5)
instance encSpan:Enc Span where
  sz:=2
  val:=fun cs=>.agg cs.toArray
  rd:=fun S w cs d=>∃ c0 c1:Value,cs=[c0,c1]∧Leaf.rd1 S w c0 d.From∧Leaf.rd1 S w c1 d.To
  mono:=fun hk ⟨c0,c1,h,h0,h1⟩=>⟨c0,c1,h,Leaf.mono hk h0,Leaf.mono hk h1⟩
  len:=fun ⟨c0,c1,h,_,_⟩=>(by rw [h];rfl)
  one:=fun ⟨c0,c1,h,h0,h1⟩ c hc=>(by
    rw [h] at hc
    simp only [List.mem_cons,List.not_mem_nil,or_false] at hc
    rcases hc with rfl | rfl
    · exact Leaf.one h0
    · exact Leaf.one h1)
instance encOverlap:Enc Overlap where
  sz:=3
  val:=fun cs=>.agg cs.toArray
  rd:=fun S w cs d=>∃ c0 c1 c2:Value,cs=[c0,c1,c2]∧Leaf.rd1 S w c0 d.From∧Leaf.rd1 S w c1 d.To∧Leaf.rd1 S w c2 d.Same
  mono:=fun hk ⟨c0,c1,c2,h,h0,h1,h2⟩=>⟨c0,c1,c2,h,Leaf.mono hk h0,Leaf.mono hk h1,Leaf.mono hk h2⟩
  len:=fun ⟨c0,c1,c2,h,_,_,_⟩=>(by rw [h];rfl)
  one:=fun ⟨c0,c1,c2,h,h0,h1,h2⟩ c hc=>(by
    rw [h] at hc
    simp only [List.mem_cons,List.not_mem_nil,or_false] at hc
    rcases hc with rfl | rfl | rfl
    · exact Leaf.one h0
    · exact Leaf.one h1
    · exact Leaf.one h2)
instance encContinuity_state:Enc Continuity_state where
  sz:=2
  val:=fun cs=>.agg cs.toArray
  rd:=fun S w cs d=>∃ c0 c1:Value,cs=[c0,c1]∧Leaf.rd1 S w c0 d.depth_∧Leaf.rd1 S w c1 d.same_
  mono:=fun hk ⟨c0,c1,h,h0,h1⟩=>⟨c0,c1,h,Leaf.mono hk h0,Leaf.mono hk h1⟩
  len:=fun ⟨c0,c1,h,_,_⟩=>(by rw [h];rfl)
  one:=fun ⟨c0,c1,h,h0,h1⟩ c hc=>(by
    rw [h] at hc
    simp only [List.mem_cons,List.not_mem_nil,or_false] at hc
    rcases hc with rfl | rfl
    · exact Leaf.one h0
    · exact Leaf.one h1)
instance encDice:Enc Dice where
  sz:=2
  val:=fun cs=>.agg cs.toArray
  rd:=fun S w cs d=>∃ c0 c1:Value,cs=[c0,c1]∧Leaf.rd1 S w c0 d.L∧Leaf.rd1 S w c1 d.At
  mono:=fun hk ⟨c0,c1,h,h0,h1⟩=>⟨c0,c1,h,Leaf.mono hk h0,Leaf.mono hk h1⟩
  len:=fun ⟨c0,c1,h,_,_⟩=>(by rw [h];rfl)
  one:=fun ⟨c0,c1,h,h0,h1⟩ c hc=>(by
    rw [h] at hc
    simp only [List.mem_cons,List.not_mem_nil,or_false] at hc
    rcases hc with rfl | rfl
    · exact Leaf.one h0
    · exact Leaf.one h1)
instance encContinuity_builder:Enc Continuity_builder where
  sz:=8
  val:=fun cs=>.agg cs.toArray
  rd:=fun S w cs d=>∃ c0 c1 c2 c3 c4 c5 c6 c7:Value,cs=[c0,c1,c2,c3,c4,c5,c6,c7]∧Leaf.rd1 S w c0 d.Segment.Start∧Leaf.rd1 S w c1 d.Segment.First∧Leaf.rd1 S w c2 d.Segment.Rate.Num∧Leaf.rd1 S w c3 d.Segment.Rate.Den∧Leaf.rd1 S w c4 d.Segment.Error∧Leaf.rd1 S w c5 d.Segment.Samples∧Leaf.rd1 S w c6 d.worst_∧Leaf.rd1 S w c7 d.off_
  mono:=fun hk ⟨c0,c1,c2,c3,c4,c5,c6,c7,h,h0,h1,h2,h3,h4,h5,h6,h7⟩=>⟨c0,c1,c2,c3,c4,c5,c6,c7,h,Leaf.mono hk h0,Leaf.mono hk h1,Leaf.mono hk h2,Leaf.mono hk h3,Leaf.mono hk h4,Leaf.mono hk h5,Leaf.mono hk h6,Leaf.mono hk h7⟩
  len:=fun ⟨c0,c1,c2,c3,c4,c5,c6,c7,h,_,_,_,_,_,_,_,_⟩=>(by rw [h];rfl)
  one:=fun ⟨c0,c1,c2,c3,c4,c5,c6,c7,h,h0,h1,h2,h3,h4,h5,h6,h7⟩ c hc=>(by
    rw [h] at hc
    simp only [List.mem_cons,List.not_mem_nil,or_false] at hc
    rcases hc with rfl | rfl | rfl | rfl | rfl | rfl | rfl | rfl
    · exact Leaf.one h0
    · exact Leaf.one h1
    · exact Leaf.one h2
    · exact Leaf.one h3
    · exact Leaf.one h4
    · exact Leaf.one h5
    · exact Leaf.one h6
    · exact Leaf.one h7)
instance encArr_1:Enc (Arr2 Int) where
  sz:=2
  val:=fun cs=>.agg cs.toArray
  rd:=fun S w cs d=>∃ c0 c1:Value,cs=[c0,c1]∧Leaf.rd1 S w c0 d.e0∧Leaf.rd1 S w c1 d.e1
  mono:=fun hk ⟨c0,c1,h,h0,h1⟩=>⟨c0,c1,h,Leaf.mono hk h0,Leaf.mono hk h1⟩
  len:=fun ⟨c0,c1,h,_,_⟩=>(by rw [h];rfl)
  one:=fun ⟨c0,c1,h,h0,h1⟩ c hc=>(by
    rw [h] at hc
    simp only [List.mem_cons,List.not_mem_nil,or_false] at hc
    rcases hc with rfl | rfl
    · exact Leaf.one h0
    · exact Leaf.one h1)
end Go.Proofs.YtdcafiefjakfeaaGreat.Wk

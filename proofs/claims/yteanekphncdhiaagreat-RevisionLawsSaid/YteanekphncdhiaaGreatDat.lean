/- How the data of the Go types lie in memory. -/
import Derived.Test.YteanekphncdhiaaGreatLa1
import Derived.Test.YteanekphncdhiaaGreatShData
import Derived.Test.YteanekphncdhiaaGreatLibMs
namespace Go.Proofs.YteanekphncdhiaaGreat.Wk
open Go Go.RowKit Go.Proofs.YteanekphncdhiaaGreat.Sh
instance encStage:Enc Stage where
  sz:=10
  val:=fun cs=>.agg cs.toArray
  rd:=fun S w cs d=>∃ c0 c1 c2 c3 c4 c5 c6 c7 c8 c9:Value,cs=[c0,c1,c2,c3,c4,c5,c6,c7,c8,c9]∧Leaf.rd1 S w c0 d.Kind∧Leaf.rd1 S w c1 d.Num.e0∧Leaf.rd1 S w c2 d.Num.e1∧Leaf.rd1 S w c3 d.Num.e2∧Leaf.rd1 S w c4 d.Den.e0∧Leaf.rd1 S w c5 d.Den.e1∧Leaf.rd1 S w c6 d.Den.e2∧Leaf.rd1 S w c7 d.Taps∧Leaf.rd1 S w c8 d.Factor∧Leaf.rd1 S w c9 d.Shift
  mono:=fun hk ⟨c0,c1,c2,c3,c4,c5,c6,c7,c8,c9,h,h0,h1,h2,h3,h4,h5,h6,h7,h8,h9⟩=>⟨c0,c1,c2,c3,c4,c5,c6,c7,c8,c9,h,Leaf.mono hk h0,Leaf.mono hk h1,Leaf.mono hk h2,Leaf.mono hk h3,Leaf.mono hk h4,Leaf.mono hk h5,Leaf.mono hk h6,Leaf.mono hk h7,Leaf.mono hk h8,Leaf.mono hk h9⟩
  len:=fun ⟨c0,c1,c2,c3,c4,c5,c6,c7,c8,c9,h,_,_,_,_,_,_,_,_,_,_⟩=>(by rw [h];rfl)
  one:=fun ⟨c0,c1,c2,c3,c4,c5,c6,c7,c8,c9,h,h0,h1,h2,h3,h4,h5,h6,h7,h8,h9⟩ c hc=>(by
    rw [h] at hc
    simp only [List.mem_cons,List.not_mem_nil,or_false] at hc
    rcases hc with rfl | rfl | rfl | rfl | rfl | rfl | rfl | rfl | rfl | rfl
    · exact Leaf.one h0
    · exact Leaf.one h1
    · exact Leaf.one h2
    · exact Leaf.one h3
    · exact Leaf.one h4
    · exact Leaf.one h5
    · exact Leaf.one h6
    · exact Leaf.one h7
    · exact Leaf.one h8
    · exact Leaf.one h9)
instance encSourceID:Enc SourceID where
  sz:=4
  val:=fun cs=>.agg cs.toArray
  rd:=fun S w cs d=>∃ c0 c1 c2 c3:Value,cs=[c0,c1,c2,c3]∧Leaf.rd1 S w c0 d.Network∧Leaf.rd1 S w c1 d.Station∧Leaf.rd1 S w c2 d.Location∧Leaf.rd1 S w c3 d.Channel
  mono:=fun hk ⟨c0,c1,c2,c3,h,h0,h1,h2,h3⟩=>⟨c0,c1,c2,c3,h,Leaf.mono hk h0,Leaf.mono hk h1,Leaf.mono hk h2,Leaf.mono hk h3⟩
  len:=fun ⟨c0,c1,c2,c3,h,_,_,_,_⟩=>(by rw [h];rfl)
  one:=fun ⟨c0,c1,c2,c3,h,h0,h1,h2,h3⟩ c hc=>(by
    rw [h] at hc
    simp only [List.mem_cons,List.not_mem_nil,or_false] at hc
    rcases hc with rfl | rfl | rfl | rfl
    · exact Leaf.one h0
    · exact Leaf.one h1
    · exact Leaf.one h2
    · exact Leaf.one h3)
instance encRate:Enc Rate where
  sz:=2
  val:=fun cs=>.agg cs.toArray
  rd:=fun S w cs d=>∃ c0 c1:Value,cs=[c0,c1]∧Leaf.rd1 S w c0 d.Num∧Leaf.rd1 S w c1 d.Den
  mono:=fun hk ⟨c0,c1,h,h0,h1⟩=>⟨c0,c1,h,Leaf.mono hk h0,Leaf.mono hk h1⟩
  len:=fun ⟨c0,c1,h,_,_⟩=>(by rw [h];rfl)
  one:=fun ⟨c0,c1,h,h0,h1⟩ c hc=>(by
    rw [h] at hc
    simp only [List.mem_cons,List.not_mem_nil,or_false] at hc
    rcases hc with rfl | rfl
    · exact Leaf.one h0
    · exact Leaf.one h1)
instance encPosition:Enc Position where
  sz:=3
  val:=fun cs=>.agg cs.toArray
  rd:=fun S w cs d=>∃ c0 c1 c2:Value,cs=[c0,c1,c2]∧Leaf.rd1 S w c0 d.X∧Leaf.rd1 S w c1 d.Y∧Leaf.rd1 S w c2 d.Z
  mono:=fun hk ⟨c0,c1,c2,h,h0,h1,h2⟩=>⟨c0,c1,c2,h,Leaf.mono hk h0,Leaf.mono hk h1,Leaf.mono hk h2⟩
  len:=fun ⟨c0,c1,c2,h,_,_,_⟩=>(by rw [h];rfl)
  one:=fun ⟨c0,c1,c2,h,h0,h1,h2⟩ c hc=>(by
    rw [h] at hc
    simp only [List.mem_cons,List.not_mem_nil,or_false] at hc
    rcases hc with rfl | rfl | rfl
    · exact Leaf.one h0
    · exact Leaf.one h1
    · exact Leaf.one h2)
instance encResponse:Enc Response where
  sz:=1
  val:=fun cs=>.agg cs.toArray
  rd:=fun S w cs d=>∃ c0:Value,cs=[c0]∧Leaf.rd1 S w c0 d.Stages
  mono:=fun hk ⟨c0,h,h0⟩=>⟨c0,h,Leaf.mono hk h0⟩
  len:=fun ⟨c0,h,_⟩=>(by rw [h];rfl)
  one:=fun ⟨c0,h,h0⟩ c hc=>(by
    rw [h] at hc
    simp only [List.mem_cons,List.not_mem_nil,or_false] at hc
    rcases hc with rfl
    · exact Leaf.one h0)
instance encEpoch:Enc Epoch where
  sz:=8
  val:=fun cs=>.agg cs.toArray
  rd:=fun S w cs d=>∃ c0 c1 c2 c3 c4 c5 c6 c7:Value,cs=[c0,c1,c2,c3,c4,c5,c6,c7]∧Leaf.rd1 S w c0 d.From∧Leaf.rd1 S w c1 d.To∧Leaf.rd1 S w c2 d.Rate.Num∧Leaf.rd1 S w c3 d.Rate.Den∧Leaf.rd1 S w c4 d.Position.X∧Leaf.rd1 S w c5 d.Position.Y∧Leaf.rd1 S w c6 d.Position.Z∧Leaf.rd1 S w c7 d.Response.Stages
  mono:=fun hk ⟨c0,c1,c2,c3,c4,c5,c6,c7,h,h0,h1,h2,h3,h4,h5,h6,h7⟩=>⟨c0,c1,c2,c3,c4,c5,c6,c7,h,Leaf.mono hk h0,Leaf.mono hk h1,Leaf.mono hk h2,Leaf.mono hk h3,Leaf.mono hk h4,Leaf.mono hk h5,Leaf.mono hk h6,Leaf.mono hk h7⟩
  len:=fun ⟨c0,c1,c2,c3,c4,c5,c6,c7,h,_,_,_,_,_,_,_,_⟩=>(by rw [h];rfl)
  one:=fun ⟨c0,c1,c2,c3,c4,c5,c6,c7,h,h0,h1,h2,h3,h4,h5,h6,h7⟩ c hc=>(by
    rw [h] at hc
    simp only [List.mem_cons,List.not_mem_nil,or_false] at hc
    rcases hc with rfl | rfl | rfl | rfl | rfl | rfl | rfl | rfl
    · exact Leaf.one h0
    · exact Leaf.one h1
    · exact Leaf.one h2
    · exact Leaf.one h3
    · exact Leaf.one h4
    · exact Leaf.one h5
    · exact Leaf.one h6
    · exact Leaf.one h7)
instance encChannel:Enc Channel where
  sz:=5
  val:=fun cs=>.agg cs.toArray
  rd:=fun S w cs d=>∃ c0 c1 c2 c3 c4:Value,cs=[c0,c1,c2,c3,c4]∧Leaf.rd1 S w c0 d.Source.Network∧Leaf.rd1 S w c1 d.Source.Station∧Leaf.rd1 S w c2 d.Source.Location∧Leaf.rd1 S w c3 d.Source.Channel∧Leaf.rd1 S w c4 d.Epochs
  mono:=fun hk ⟨c0,c1,c2,c3,c4,h,h0,h1,h2,h3,h4⟩=>⟨c0,c1,c2,c3,c4,h,Leaf.mono hk h0,Leaf.mono hk h1,Leaf.mono hk h2,Leaf.mono hk h3,Leaf.mono hk h4⟩
  len:=fun ⟨c0,c1,c2,c3,c4,h,_,_,_,_,_⟩=>(by rw [h];rfl)
  one:=fun ⟨c0,c1,c2,c3,c4,h,h0,h1,h2,h3,h4⟩ c hc=>(by
    rw [h] at hc
    simp only [List.mem_cons,List.not_mem_nil,or_false] at hc
    rcases hc with rfl | rfl | rfl | rfl | rfl
    · exact Leaf.one h0
    · exact Leaf.one h1
    · exact Leaf.one h2
    · exact Leaf.one h3
    · exact Leaf.one h4)
instance encInventory:Enc Inventory where
  sz:=1
  val:=fun cs=>.agg cs.toArray
  rd:=fun S w cs d=>∃ c0:Value,cs=[c0]∧Leaf.rd1 S w c0 d.Channels
  mono:=fun hk ⟨c0,h,h0⟩=>⟨c0,h,Leaf.mono hk h0⟩
  len:=fun ⟨c0,h,_⟩=>(by rw [h];rfl)
  one:=fun ⟨c0,h,h0⟩ c hc=>(by
    rw [h] at hc
    simp only [List.mem_cons,List.not_mem_nil,or_false] at hc
    rcases hc with rfl
    · exact Leaf.one h0)
instance encChange:Enc Change where
  sz:=14
  val:=fun cs=>.agg cs.toArray
  rd:=fun S w cs d=>∃ c0 c1 c2 c3 c4 c5 c6 c7 c8 c9 c10 c11 c12 c13:Value,cs=[c0,c1,c2,c3,c4,c5,c6,c7,c8,c9,c10,c11,c12,c13]∧Leaf.rd1 S w c0 d.Kind∧Leaf.rd1 S w c1 d.Source.Network∧Leaf.rd1 S w c2 d.Source.Station∧Leaf.rd1 S w c3 d.Source.Location∧Leaf.rd1 S w c4 d.Source.Channel∧Leaf.rd1 S w c5 d.From∧Leaf.rd1 S w c6 d.Epoch.From∧Leaf.rd1 S w c7 d.Epoch.To∧Leaf.rd1 S w c8 d.Epoch.Rate.Num∧Leaf.rd1 S w c9 d.Epoch.Rate.Den∧Leaf.rd1 S w c10 d.Epoch.Position.X∧Leaf.rd1 S w c11 d.Epoch.Position.Y∧Leaf.rd1 S w c12 d.Epoch.Position.Z∧Leaf.rd1 S w c13 d.Epoch.Response.Stages
  mono:=fun hk ⟨c0,c1,c2,c3,c4,c5,c6,c7,c8,c9,c10,c11,c12,c13,h,h0,h1,h2,h3,h4,h5,h6,h7,h8,h9,h10,h11,h12,h13⟩=>⟨c0,c1,c2,c3,c4,c5,c6,c7,c8,c9,c10,c11,c12,c13,h,Leaf.mono hk h0,Leaf.mono hk h1,Leaf.mono hk h2,Leaf.mono hk h3,Leaf.mono hk h4,Leaf.mono hk h5,Leaf.mono hk h6,Leaf.mono hk h7,Leaf.mono hk h8,Leaf.mono hk h9,Leaf.mono hk h10,Leaf.mono hk h11,Leaf.mono hk h12,Leaf.mono hk h13⟩
  len:=fun ⟨c0,c1,c2,c3,c4,c5,c6,c7,c8,c9,c10,c11,c12,c13,h,_,_,_,_,_,_,_,_,_,_,_,_,_,_⟩=>(by rw [h];rfl)
  one:=fun ⟨c0,c1,c2,c3,c4,c5,c6,c7,c8,c9,c10,c11,c12,c13,h,h0,h1,h2,h3,h4,h5,h6,h7,h8,h9,h10,h11,h12,h13⟩ c hc=>(by
    rw [h] at hc
    simp only [List.mem_cons,List.not_mem_nil,or_false] at hc
    rcases hc with rfl | rfl | rfl | rfl | rfl | rfl | rfl | rfl | rfl | rfl | rfl | rfl | rfl | rfl
    · exact Leaf.one h0
    · exact Leaf.one h1
    · exact Leaf.one h2
    · exact Leaf.one h3
    · exact Leaf.one h4
    · exact Leaf.one h5
    · exact Leaf.one h6
    · exact Leaf.one h7
    · exact Leaf.one h8
    · exact Leaf.one h9
    · exact Leaf.one h10
    · exact Leaf.one h11
    · exact Leaf.one h12
    · exact Leaf.one h13)
instance encSpan:Enc Span where
  sz:=2
  val:=fun cs=>.agg cs.toArray
  rd:=fun S w cs d=>∃ c0 c1:Value,cs=[c0,c1]∧Leaf.rd1 S w c0 d.From∧Leaf.rd1 S w c1 d.To
  mono:=fun hk ⟨c0,c1,h,h0,h1⟩=>⟨c0,c1,h,Leaf.mono hk h0,Leaf.mono hk h1⟩
  len:=fun ⟨c0,c1,h,_,_⟩=>(by rw [h];rfl)
  one:=fun ⟨c0,c1,h,h0,h1⟩ c hc=>(by
    rw [h] at hc
    simp only [List.mem_cons,List.not_mem_nil,or_false] at hc
    rcases hc with rfl | rfl
    · exact Leaf.one h0
    · exact Leaf.one h1)
instance encAffected:Enc Affected where
  sz:=5
  val:=fun cs=>.agg cs.toArray
  rd:=fun S w cs d=>∃ c0 c1 c2 c3 c4:Value,cs=[c0,c1,c2,c3,c4]∧Leaf.rd1 S w c0 d.Source.Network∧Leaf.rd1 S w c1 d.Source.Station∧Leaf.rd1 S w c2 d.Source.Location∧Leaf.rd1 S w c3 d.Source.Channel∧Leaf.rd1 S w c4 d.Spans
  mono:=fun hk ⟨c0,c1,c2,c3,c4,h,h0,h1,h2,h3,h4⟩=>⟨c0,c1,c2,c3,c4,h,Leaf.mono hk h0,Leaf.mono hk h1,Leaf.mono hk h2,Leaf.mono hk h3,Leaf.mono hk h4⟩
  len:=fun ⟨c0,c1,c2,c3,c4,h,_,_,_,_,_⟩=>(by rw [h];rfl)
  one:=fun ⟨c0,c1,c2,c3,c4,h,h0,h1,h2,h3,h4⟩ c hc=>(by
    rw [h] at hc
    simp only [List.mem_cons,List.not_mem_nil,or_false] at hc
    rcases hc with rfl | rfl | rfl | rfl | rfl
    · exact Leaf.one h0
    · exact Leaf.one h1
    · exact Leaf.one h2
    · exact Leaf.one h3
    · exact Leaf.one h4)
instance encDice:Enc Dice where
  sz:=2
  val:=fun cs=>.agg cs.toArray
  rd:=fun S w cs d=>∃ c0 c1:Value,cs=[c0,c1]∧Leaf.rd1 S w c0 d.L∧Leaf.rd1 S w c1 d.At
  mono:=fun hk ⟨c0,c1,h,h0,h1⟩=>⟨c0,c1,h,Leaf.mono hk h0,Leaf.mono hk h1⟩
  len:=fun ⟨c0,c1,h,_,_⟩=>(by rw [h];rfl)
  one:=fun ⟨c0,c1,h,h0,h1⟩ c hc=>(by
    rw [h] at hc
    simp only [List.mem_cons,List.not_mem_nil,or_false] at hc
    rcases hc with rfl | rfl
    · exact Leaf.one h0
    · exact Leaf.one h1)
instance encHistory:Enc History where
  sz:=2
  val:=fun cs=>.agg cs.toArray
  rd:=fun S w cs d=>∃ c0 c1:Value,cs=[c0,c1]∧Leaf.rd1 S w c0 d.Base.Channels∧Leaf.rd1 S w c1 d.Changes
  mono:=fun hk ⟨c0,c1,h,h0,h1⟩=>⟨c0,c1,h,Leaf.mono hk h0,Leaf.mono hk h1⟩
  len:=fun ⟨c0,c1,h,_,_⟩=>(by rw [h];rfl)
  one:=fun ⟨c0,c1,h,h0,h1⟩ c hc=>(by
    rw [h] at hc
    simp only [List.mem_cons,List.not_mem_nil,or_false] at hc
    rcases hc with rfl | rfl
    · exact Leaf.one h0
    · exact Leaf.one h1)
instance encArr_1:Enc (Arr2 Int) where
  sz:=2
  val:=fun cs=>.agg cs.toArray
  rd:=fun S w cs d=>∃ c0 c1:Value,cs=[c0,c1]∧Leaf.rd1 S w c0 d.e0∧Leaf.rd1 S w c1 d.e1
  mono:=fun hk ⟨c0,c1,h,h0,h1⟩=>⟨c0,c1,h,Leaf.mono hk h0,Leaf.mono hk h1⟩
  len:=fun ⟨c0,c1,h,_,_⟩=>(by rw [h];rfl)
  one:=fun ⟨c0,c1,h,h0,h1⟩ c hc=>(by
    rw [h] at hc
    simp only [List.mem_cons,List.not_mem_nil,or_false] at hc
    rcases hc with rfl | rfl
    · exact Leaf.one h0
    · exact Leaf.one h1)
instance encArr_2:Enc (Arr3 Int) where
  sz:=3
  val:=fun cs=>.agg cs.toArray
  rd:=fun S w cs d=>∃ c0 c1 c2:Value,cs=[c0,c1,c2]∧Leaf.rd1 S w c0 d.e0∧Leaf.rd1 S w c1 d.e1∧Leaf.rd1 S w c2 d.e2
  mono:=fun hk ⟨c0,c1,c2,h,h0,h1,h2⟩=>⟨c0,c1,c2,h,Leaf.mono hk h0,Leaf.mono hk h1,Leaf.mono hk h2⟩
  len:=fun ⟨c0,c1,c2,h,_,_,_⟩=>(by rw [h];rfl)
  one:=fun ⟨c0,c1,c2,h,h0,h1,h2⟩ c hc=>(by
    rw [h] at hc
    simp only [List.mem_cons,List.not_mem_nil,or_false] at hc
    rcases hc with rfl | rfl | rfl
    · exact Leaf.one h0
    · exact Leaf.one h1
    · exact Leaf.one h2)
instance:MsKey SourceID where
  val:=fun x=>.agg #[.string x.Network,.string x.Station,.string x.Location,.string x.Channel]
end Go.Proofs.YteanekphncdhiaaGreat.Wk

/- Identifiers and records as plain programs: when they are valid (chapters 3 and 14). -/
import Derived.Test.YtmlekplbmfengaaGreatRate
import Derived.Test.YtmlekplbmfengaaGreatCont
namespace Go.Proofs.YtmlekplbmfengaaGreat.Sh
open Go
set_option linter.unusedVariables false
set_option linter.unusedSimpArgs false
def plainB (c : Int) : Bool := (decide (65 ≤ c) && decide (c ≤ 90)) || (decide (48 ≤ c) && decide (c ≤ 57))
def bts (s : ByteArray) : List UInt8 := s.data.toList
theorem byteAt_nat (s : ByteArray) (i : Nat) (h : i < (bts s).length) : byteAt s (i : Int) = some (((bts s)[i]).toNat : Int) := by
  have hs : i < s.size := by simpa [bts] using h
  unfold byteAt
  rw [if_pos (Int.natCast_nonneg i), Int.toNat_natCast]
  have : s[i]? = some s[i] := getElem?_pos s i hs
  rw [this]
  rfl
def codeB (s : ByteArray) (lo hi : Int) : Bool := ((bts s).all fun c => plainB c.toNat) && inB s.size lo hi
theorem source_code_eq (s : ByteArray) (lo hi : Int) (hs : s.size ≤ 9223372036854775807) : source_code s lo hi = some (codeB s lo hi) := by
  unfold source_code codeB
  have hl : s.size = (bts s).length := by simp [bts]
  rw [loop_all (bts s).length (fun i => plainB (((bts s).getD i 0).toNat : Int)) false (inB s.size lo hi)]
  · rw [range_all (bts s) (fun c => plainB c.toNat) _ (fun i hi => by simp [List.getD_eq_getElem?_getD, hi])]
    cases (bts s).all (fun c => plainB c.toNat) <;> simp
  · intro i hi hp
    have e : (bts s).getD i 0 = (bts s)[i] := by simp [List.getD_eq_getElem?_getD, hi]
    rw [e] at hp
    unfold source_code_l2
    rw [if_pos (decide_eq_true (by omega)), byteAt_nat s i hi]
    simp only [Option.bind, source_plain]
    have : ((decide (65 ≤ (((bts s)[i]).toNat : Int)) && decide ((((bts s)[i]).toNat : Int) ≤ 90)) || (decide (48 ≤ (((bts s)[i]).toNat : Int)) && decide ((((bts s)[i]).toNat : Int) ≤ 57))) = true := hp
    rw [this]
    simp only [Bool.not_true, Bool.false_eq_true, if_false]
    rw [w64_id (by omega) (by omega)]
    rfl
  · intro i hi hp
    have e : (bts s).getD i 0 = (bts s)[i] := by simp [List.getD_eq_getElem?_getD, hi]
    rw [e] at hp
    unfold source_code_l2
    rw [if_pos (decide_eq_true (by omega)), byteAt_nat s i hi]
    simp only [Option.bind, source_plain]
    have : ((decide (65 ≤ (((bts s)[i]).toNat : Int)) && decide ((((bts s)[i]).toNat : Int) ≤ 90)) || (decide (48 ≤ (((bts s)[i]).toNat : Int)) && decide ((((bts s)[i]).toNat : Int) ≤ 57))) = false := hp
    rw [this]
    simp
  · unfold source_code_l2
    rw [if_neg (by simp; omega)]
    rfl
def srcB (s : SourceID) : Bool := codeB s.Network 1 2 && codeB s.Station 1 5 && codeB s.Location 0 2 && !((s.Location.size : Int) == 1) && codeB s.Channel 3 3
structure SrcSm (x : SourceID) : Prop where
  n : x.Network.size ≤ 9223372036854775807
  s : x.Station.size ≤ 9223372036854775807
  l : x.Location.size ≤ 9223372036854775807
  c : x.Channel.size ≤ 9223372036854775807
theorem source_Valid_eq {s : SourceID} (h : SrcSm s) : source_Valid s = some (srcB s) := by
  unfold source_Valid srcB
  rw [source_code_eq _ _ _ h.n, source_code_eq _ _ _ h.s, source_code_eq _ _ _ h.l, source_code_eq _ _ _ h.c]
  have hb : ((s.Location.size : Int) != 1) = !((s.Location.size : Int) == 1) := rfl
  rw [hb]
  cases codeB s.Network 1 2 <;> cases codeB s.Station 1 5 <;> cases codeB s.Location 0 2 <;> cases ((s.Location.size : Int) == 1) <;> cases codeB s.Channel 3 3 <;> rfl
/-- samples in their range -/
def smpB (l : List Int) : Bool := l.all fun x => inB x (-1073741823) 1073741823
theorem smpB_iff {l : List Int} : smpB l = true ↔ ∀ x ∈ l, -1073741823 ≤ x ∧ x ≤ 1073741823 := by
  simp only [smpB, List.all_eq_true, inB_iff]
def recB (r : Record) : Bool :=
  srcB r.Source && inB r.Samples.length 1 65536 && inB r.First 0 (16777216 - r.Samples.length) && inB r.Error 0 1099511627776 && inB r.Run 0 65535 && inB r.Seq 0 1073741824 &&
    ((timeV r.Start r.Rate (r.First + r.Samples.length)).2 == 0) && decide ((timeV r.Start r.Rate (r.First + r.Samples.length)).1 ≤ 9007199254740992) && smpB r.Samples
theorem record_in_eq (n lo hi : Int) : record_in n lo hi = some (inB n lo hi) := rfl
theorem record_Valid_eq {r : Record} (hs : SrcSm r.Source) (hl : r.Samples.length ≤ 1000000000) : record_Valid r = some (recB r) := by
  unfold record_Valid recB
  rw [source_Valid_eq hs]
  simp only [record_in_eq, Option.bind]
  rw [w64_id (x := 16777216 - (r.Samples.length : Int)) (by omega) (by omega)]
  have hw : ∀ x, record_Valid_fn1 x = some (!(inB x (-1073741823) 1073741823)) := fun x => rfl
  rw [contains_spec _ _ hw r.Samples (by omega)]
  have hany : (!(r.Samples.any fun x => !(inB x (-1073741823) 1073741823))) = smpB r.Samples := by
    unfold smpB
    rw [List.any_eq_not_all_not]; simp
  simp only [hany]
  cases srcB r.Source
  · simp
  cases h1 : inB (r.Samples.length : Int) 1 65536
  · simp
  cases h2 : inB r.First 0 (16777216 - (r.Samples.length : Int))
  · simp
  have a2 := inB_iff.1 h2
  rw [w64_id (x := r.First + (r.Samples.length : Int)) (by omega) (by omega), rate_Time_eq]
  cases inB r.Error 0 1099511627776
  · simp
  cases inB r.Run 0 65535
  · simp
  cases inB r.Seq 0 1073741824
  · simp
  simp only [Bool.not_true, Bool.false_eq_true, if_false, Bool.true_and]
  cases ((timeV r.Start r.Rate (r.First + r.Samples.length)).2 == 0)
  · simp
  cases decide ((timeV r.Start r.Rate (r.First + r.Samples.length)).1 ≤ 9007199254740992)
  · simp
  simp
end Go.Proofs.YtmlekplbmfengaaGreat.Sh

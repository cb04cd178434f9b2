/- The reference's identifiers and records as plain programs: they are valid where the program's are, and have the same times (chapters 3, 5 and 14); for seats without record.time. -/
import Derived.Test.YtmlekplbmfengaaGreatRecF0
import Derived.Test.YtmlekplbmfengaaGreatRateRef
import Derived.Laws.Strings
namespace Go.Proofs.YtmlekplbmfengaaGreat.Sh
open Go
set_option linter.unusedVariables false
set_option linter.unusedSimpArgs false
theorem ref03_code_eq (s : ByteArray) (lo hi : Int) (hs : s.size ≤ 9223372036854775807) : ref03_code s lo hi = some (codeB s lo hi) := by
  unfold ref03_code codeB
  have hl : s.size = (bts s).length := by simp [bts]
  have step : ∀ (i : Nat) (hi' : i < (bts s).length), ref03_code_l2 s lo hi (i : Int) = if plainB (((bts s)[i]).toNat : Int) = true then some (.inl ((i + 1 : Nat) : Int)) else some (.inr false) := by
    intro i hi'
    unfold ref03_code_l2
    rw [if_pos (decide_eq_true (by omega)), byteAt_nat s i hi']
    generalize (((bts s)[i]).toNat : Int) = c
    simp only [Option.bind]
    rw [w64_id (by omega) (by omega)]
    unfold plainB
    by_cases h1 : 65 ≤ c <;> by_cases h2 : c ≤ 90 <;> by_cases h3 : 48 ≤ c <;> by_cases h4 : c ≤ 57 <;> simp [h1, h2, h3, h4]
  rw [loop_all (bts s).length (fun i => plainB (((bts s).getD i 0).toNat : Int)) false (inB s.size lo hi)]
  · rw [range_all (bts s) (fun c => plainB c.toNat) _ (fun i hi => by simp [List.getD_eq_getElem?_getD, hi])]
    cases (bts s).all (fun c => plainB c.toNat) <;> simp
  · intro i hi hp
    have e : (bts s).getD i 0 = (bts s)[i] := by simp [List.getD_eq_getElem?_getD, hi]
    rw [e] at hp
    rw [step i hi, if_pos hp]
  · intro i hi hp
    have e : (bts s).getD i 0 = (bts s)[i] := by simp [List.getD_eq_getElem?_getD, hi]
    rw [e] at hp
    rw [step i hi, hp]
    rfl
  · unfold ref03_code_l2
    rw [if_neg (by simp; omega)]
    rfl
theorem toList_bts (s : ByteArray) : s.toList = bts s := ByteArray.toList_eq s
theorem nil_iff (s : ByteArray) : (s.toList == (⟨#[]⟩ : ByteArray).toList) = decide (s.size = 0) := by
  rw [toList_bts, toList_bts]
  have : bts (⟨#[]⟩ : ByteArray) = [] := rfl
  rw [this, Bool.eq_iff_iff]
  simp [bts, ← Array.size_eq_zero_iff]
theorem ref03_Valid_eq {s : SourceID} (h : SrcSm s) : ref03_Valid s = some (srcB s) := by
  unfold ref03_Valid srcB
  rw [ref03_code_eq _ _ _ h.n, ref03_code_eq _ _ _ h.s, ref03_code_eq _ _ _ h.l, ref03_code_eq _ _ _ h.c, nil_iff]
  have e : (decide (s.Location.size = 0) || codeB s.Location 2 2) = (codeB s.Location 0 2 && !((s.Location.size : Int) == 1)) := by
    unfold codeB
    by_cases h0 : s.Location.size = 0
    · have hb : bts s.Location = [] := by
        have : (bts s.Location).length = 0 := by simpa [bts] using h0
        exact List.eq_nil_of_length_eq_zero this
      rw [hb]
      simp [h0, inB]
    · rw [decide_eq_false h0, Bool.false_or]
      cases (bts s.Location).all (fun c => plainB c.toNat)
      · rfl
      · simp only [Bool.true_and, inB]
        rw [Bool.eq_iff_iff]
        simp
        omega
  simp only [Option.bind]
  generalize codeB s.Network 1 2 = a at *
  generalize codeB s.Station 1 5 = b at *
  generalize codeB s.Channel 3 3 = c at *
  generalize codeB s.Location 2 2 = d at *
  generalize codeB s.Location 0 2 = f at *
  generalize decide (s.Location.size = 0) = g at *
  generalize ((s.Location.size : Int) == 1) = k at *
  revert e
  cases a <;> cases b <;> cases c <;> cases d <;> cases f <;> cases g <;> cases k <;> decide
theorem ref05_InRange_eq (l : List Int) (h : l.length ≤ 1000000000) : ref05_InRange l = some (smpB l) := by
  unfold ref05_InRange smpB
  rw [loop_all l.length (fun i => inB (l.getD i 0) (-1073741823) 1073741823) false true]
  · rw [range_all l (fun x => inB x (-1073741823) 1073741823) _ (fun i hi => by simp [List.getD_eq_getElem?_getD, hi])]
    cases l.all (fun x => inB x (-1073741823) 1073741823) <;> rfl
  · intro i hi hp
    have e : l.getD i 0 = l[i] := by simp [List.getD_eq_getElem?_getD, hi]
    rw [e] at hp
    unfold ref05_InRange_l2
    rw [if_pos (decide_eq_true (by omega)), ix_nat _ _ hi]
    simp only [Option.bind, ref05_Sample, ref01_In_eq, hp, Bool.not_true, Bool.false_eq_true, if_false]
    rw [w64_id (by omega) (by omega)]
    rfl
  · intro i hi hp
    have e : l.getD i 0 = l[i] := by simp [List.getD_eq_getElem?_getD, hi]
    rw [e] at hp
    unfold ref05_InRange_l2
    rw [if_pos (decide_eq_true (by omega)), ix_nat _ _ hi]
    simp only [Option.bind, ref05_Sample, ref01_In_eq, hp, Bool.not_false, if_true]
  · unfold ref05_InRange_l2
    rw [if_neg (by simp)]
    rfl
theorem ref14_Time_eq (r : Record) (i : Int) : ref14_Time r i = some (timeV r.Start r.Rate (w64 (r.First + i))).1 := by
  unfold ref14_Time
  rw [ref02_Time_eq]
  rfl
theorem ref14_Valid_eq {r : Record} (hs : SrcSm r.Source) (hl : r.Samples.length ≤ 1000000000) : ref14_Valid r = some (recB r) := by
  unfold ref14_Valid
  rw [ref03_Valid_eq hs, ref02_Valid_eq, ref05_InRange_eq _ hl]
  simp only [ref01_In_eq, ref14_Time_eq, Option.bind]
  have key : recB r = (srcB r.Source && rateVB r.Rate && inB r.Start 0 9007199254740992 && inB r.First 0 16777216 && inB r.Samples.length 1 65536 && !(decide (16777216 < w64 (r.First + r.Samples.length))) && smpB r.Samples &&
      (inB r.Error 0 1099511627776 && inB r.Run 0 65535 && inB r.Seq 0 1073741824 && decide ((timeV r.Start r.Rate (w64 (r.First + r.Samples.length))).1 ≤ 9007199254740992))) := by
    rw [Bool.eq_iff_iff, recB_iff]
    simp only [Bool.and_eq_true, inB_iff, decide_eq_true_eq, Bool.not_eq_true', decide_eq_false_iff_not]
    constructor
    · intro h
      have a1 := h.l1
      have a2 := h.f0
      have a3 := h.f1
      rw [w64_id (by omega) (by omega), timeV_ok h.rv h.s0 h.s1 (by omega) (by omega)]
      exact ⟨⟨⟨⟨⟨⟨⟨h.src, rateVB_iff.2 h.rv⟩, h.s0, h.s1⟩, a2, by omega⟩, by have := h.l0; omega, by omega⟩, by omega⟩, h.smp⟩, ⟨⟨⟨h.e0, h.e1⟩, h.r0, h.r1⟩, h.q0, h.q1⟩, h.te⟩
    · rintro ⟨⟨⟨⟨⟨⟨⟨b1, b2⟩, b3, b4⟩, b5, b6⟩, b7, b8⟩, b9⟩, b10⟩, ⟨⟨⟨b11, b12⟩, b13, b14⟩, b15, b16⟩, b17⟩
      rw [w64_id (by omega) (by omega)] at b9 b17
      have hrv := rateVB_iff.1 b2
      rw [timeV_ok hrv b3 b4 (by omega) (by omega)] at b17
      exact ⟨b1, by omega, by omega, b5, by omega, b11, b12, b13, b14, b15, b16, hrv, b3, b4, b17, b10⟩
  rw [key]
  cases srcB r.Source <;> cases rateVB r.Rate <;> cases inB r.Start 0 9007199254740992 <;> cases inB r.First 0 16777216 <;> cases inB (r.Samples.length : Int) 1 65536 <;> try rfl
  cases decide (16777216 < w64 (r.First + (r.Samples.length : Int))) <;> cases smpB r.Samples <;> cases inB r.Error 0 1099511627776 <;> cases inB r.Run 0 65535 <;> cases inB r.Seq 0 1073741824 <;> rfl
end Go.Proofs.YtmlekplbmfengaaGreat.Sh

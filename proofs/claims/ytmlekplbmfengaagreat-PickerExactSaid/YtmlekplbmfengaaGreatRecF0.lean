/- Records as plain programs: what a valid record has, its times, its parts (chapter 14). -/
import Derived.Test.YtmlekplbmfengaaGreatRec
namespace Go.Proofs.YtmlekplbmfengaaGreat.Sh
open Go
set_option linter.unusedVariables false
set_option linter.unusedSimpArgs false
/-- a record that is valid -/
structure RF (r : Record) : Prop where
  src : srcB r.Source = true
  l0 : 1 ≤ r.Samples.length
  l1 : r.Samples.length ≤ 65536
  f0 : 0 ≤ r.First
  f1 : r.First + r.Samples.length ≤ 16777216
  e0 : 0 ≤ r.Error
  e1 : r.Error ≤ 1099511627776
  r0 : 0 ≤ r.Run
  r1 : r.Run ≤ 65535
  q0 : 0 ≤ r.Seq
  q1 : r.Seq ≤ 1073741824
  rv : RV r.Rate
  s0 : 0 ≤ r.Start
  s1 : r.Start ≤ 9007199254740992
  te : r.Start + (r.First + r.Samples.length) * (r.Rate.Den * 1000000) / r.Rate.Num ≤ 9007199254740992
  smp : smpB r.Samples = true
theorem timeV_zero {start k : Int} {r : Rate} (h : ((timeV start r k).2 == 0) = true) : RV r ∧ 0 ≤ start ∧ start ≤ 9007199254740992 ∧ 0 ≤ k ∧ k ≤ 16777216 := by
  unfold timeV at h
  by_cases h1 : rateVB r = true
  · rw [if_pos h1] at h
    by_cases h2 : (inB start 0 9007199254740992 && inB k 0 16777216) = true
    · simp only [Bool.and_eq_true, inB_iff] at h2
      exact ⟨rateVB_iff.1 h1, h2.1.1, h2.1.2, h2.2.1, h2.2.2⟩
    · rw [if_neg h2] at h; simp at h
  · rw [if_neg h1] at h; simp at h
theorem recB_iff {r : Record} : recB r = true ↔ RF r := by
  unfold recB
  constructor
  · intro h
    simp only [Bool.and_eq_true, inB_iff, decide_eq_true_eq] at h
    obtain ⟨⟨⟨⟨⟨⟨⟨⟨h1, h2, h3⟩, h4, h5⟩, h6, h7⟩, h8, h9⟩, h10, h11⟩, h12⟩, h13⟩, h14⟩ := h
    obtain ⟨g1, g2, g3, g4, g5⟩ := timeV_zero h12
    rw [timeV_ok g1 g2 g3 g4 g5] at h13
    exact ⟨h1, by omega, by omega, h4, by omega, h6, h7, h8, h9, h10, h11, g1, g2, g3, h13, h14⟩
  · intro h
    have a1 := h.l0
    have a2 := h.l1
    have a3 := h.f0
    have a4 := h.f1
    rw [timeV_ok h.rv h.s0 h.s1 (by omega) (by omega)]
    simp only [Bool.and_eq_true, inB_iff, decide_eq_true_eq]
    exact ⟨⟨⟨⟨⟨⟨⟨⟨h.src, by omega, by omega⟩, a3, by omega⟩, h.e0, h.e1⟩, h.r0, h.r1⟩, h.q0, h.q1⟩, rfl⟩, h.te⟩, h.smp⟩
theorem codeB_size {s : ByteArray} {lo hi : Int} (h : codeB s lo hi = true) : (s.size : Int) ≤ hi := by
  simp only [codeB, Bool.and_eq_true, inB_iff] at h
  exact h.2.2
theorem srcB_sm {s : SourceID} (h : srcB s = true) : SrcSm s := by
  simp only [srcB, Bool.and_eq_true] at h
  have a1 := codeB_size h.1.1.1.1
  have a2 := codeB_size h.1.1.1.2
  have a3 := codeB_size h.1.1.2
  have a4 := codeB_size h.2
  exact ⟨by omega, by omega, by omega, by omega⟩
theorem RF.valid {r : Record} (h : RF r) : record_Valid r = some true := by
  rw [record_Valid_eq (srcB_sm h.src) (by have := h.l1; omega), recB_iff.2 h]
/-- the time of a sample -/
def timeR (r : Record) (i : Int) : Int := r.Start + (r.First + i) * (r.Rate.Den * 1000000) / r.Rate.Num
theorem RF.timeV {r : Record} (h : RF r) {i : Int} (i0 : 0 ≤ i) (i1 : i ≤ r.Samples.length) : timeV r.Start r.Rate (r.First + i) = (timeR r i, 0) := by
  have a3 := h.f0
  have a4 := h.f1
  rw [timeV_ok h.rv h.s0 h.s1 (by omega) (by omega)]
  rfl
theorem RF.mono {r : Record} (h : RF r) {i j : Int} (hij : i ≤ j) : timeR r i ≤ timeR r j := by
  have hn := h.rv.n0
  have hd := h.rv.d0
  unfold timeR
  have : (r.First + i) * (r.Rate.Den * 1000000) ≤ (r.First + j) * (r.Rate.Den * 1000000) := Int.mul_le_mul_of_nonneg_right (by omega) (by omega)
  have := Int.ediv_le_ediv (show 0 < r.Rate.Num by omega) this
  omega
theorem RF.tb {r : Record} (h : RF r) {i : Int} (i0 : 0 ≤ i) (i1 : i ≤ r.Samples.length) : 0 ≤ timeR r i ∧ timeR r i ≤ 9007199254740992 := by
  have hn := h.rv.n0
  have hd := h.rv.d0
  have h1 := h.mono i1
  have h2 := h.te
  have h3 : 0 ≤ (r.First + i) * (r.Rate.Den * 1000000) / r.Rate.Num := Int.ediv_nonneg (Int.mul_nonneg (by have := h.f0; omega) (by omega)) (by omega)
  have h4 := h.s0
  unfold timeR at *
  omega
/-- a part of a record -/
def subR (r : Record) (a b : Nat) : Record := ⟨r.Source, r.Start, r.First + a, r.Rate, r.Error, r.Run, r.Seq, (r.Samples.take b).drop a⟩
theorem subR_time (r : Record) (a b : Nat) (i : Int) : timeR (subR r a b) i = timeR r (a + i) := by
  simp only [timeR, subR]
  rw [show r.First + (a : Int) + i = r.First + (a + i) by omega]
theorem subR_len (r : Record) (a b : Nat) (hb : b ≤ r.Samples.length) : (subR r a b).Samples.length = b - a := by
  simp [subR]; omega
theorem RF.sub {r : Record} (h : RF r) {a b : Nat} (hab : a < b) (hb : b ≤ r.Samples.length) : RF (subR r a b) := by
  have hl := subR_len r a b hb
  have l1 := h.l1
  have f0 := h.f0
  have f1 := h.f1
  have ht := h.mono (i := b) (j := r.Samples.length) (by omega)
  have te := h.te
  refine ⟨h.src, by omega, by omega, by simp only [subR]; omega, by rw [hl]; simp only [subR]; omega, h.e0, h.e1, h.r0, h.r1, h.q0, h.q1, h.rv, h.s0, h.s1, ?_, ?_⟩
  · have e := subR_time r a b ((subR r a b).Samples.length)
    rw [hl] at e
    have e2 : (a : Int) + ((b - a : Nat) : Int) = b := by omega
    rw [e2] at e
    rw [hl]
    unfold timeR at e ht
    rw [e]
    omega
  · rw [smpB_iff]
    intro x hx
    exact smpB_iff.1 h.smp x (List.mem_of_mem_take (List.mem_of_mem_drop hx))
end Go.Proofs.YtmlekplbmfengaaGreat.Sh

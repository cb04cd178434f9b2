/- The lists of records that the dice make (chapter 15). -/
import Derived.Test.YthdimlepjpnncaaGreatDiceRec
import Derived.Test.YthdimlepjpnncaaGreatSim
namespace Go.Proofs.YthdimlepjpnncaaGreat.Sh
open Go
set_option linter.unusedVariables false
set_option linter.unusedSimpArgs false

/-- what is known of the records of the dice's lists -/
structure RQ (s : SourceID) (n : Int) (r : Record) : Prop where
  src : r.Source = s
  s0 : 1000000000000 ≤ r.Start
  s1 : r.Start ≤ 1000009750000
  f0 : 0 ≤ r.First
  f1 : r.First ≤ 3
  rv : RV r.Rate
  n3 : r.Rate.Num ≤ 3
  d3 : r.Rate.Den ≤ 3
  e0 : 0 ≤ r.Error
  e1 : r.Error ≤ 500
  r0 : 0 ≤ r.Run
  r1 : r.Run ≤ 1
  q0 : 0 ≤ r.Seq
  q1 : r.Seq ≤ 9
  l0 : 1 ≤ r.Samples.length
  l1 : (r.Samples.length : Int) ≤ n
  smp : ∀ x ∈ r.Samples, 0 ≤ x ∧ x ≤ 3
theorem RG.rq {s : SourceID} {n : Int} {r : Record} (h : RG s n r) : RQ s n r := ⟨h.src, h.s0, h.s1, h.f0, h.f1, h.rv, h.n3, h.d3, h.e0, h.e1, h.r0, h.r1, h.q0, by have := h.q1; omega, h.l0, h.l1, h.smp⟩
theorem RQ.end_ {s : SourceID} {n : Int} {r : Record} (h : RQ s n r) (hn : n ≤ 1000) : 0 ≤ (r.First + r.Samples.length) * (r.Rate.Den * 1000000) / r.Rate.Num ∧ (r.First + r.Samples.length) * (r.Rate.Den * 1000000) / r.Rate.Num ≤ (3 + n) * 3000000 := by
  have l1 := h.l1; have l0 := h.l0; have f0 := h.f0; have f1 := h.f1; have d0 := h.rv.d0; have d3 := h.d3; have n0 := h.rv.n0
  have k1 : (r.First + r.Samples.length) * (r.Rate.Den * 1000000) ≤ (3 + n) * 3000000 := Int.mul_le_mul (by omega) (by omega) (by omega) (by omega)
  have k0 : 0 ≤ (r.First + r.Samples.length) * (r.Rate.Den * 1000000) := Int.mul_nonneg (by omega) (by omega)
  have k2 := Int.ediv_le_self r.Rate.Num k0
  exact ⟨Int.ediv_nonneg k0 (by omega), by omega⟩
theorem RQ.rf {s : SourceID} {n : Int} {r : Record} (h : RQ s n r) (hs : srcB s = true) (hn : n ≤ 1000) : RF r := by
  have l1 := h.l1; have l0 := h.l0; have f0 := h.f0; have f1 := h.f1; have s1 := h.s1; have s0 := h.s0
  have e1 := h.e1; have r1 := h.r1; have q1 := h.q1
  have k := h.end_ hn
  exact ⟨by rw [h.src]; exact hs, l0, by omega, f0, by omega, h.e0, by omega, h.r0, by omega, h.q0, by omega, h.rv, by omega, by omega, by omega, smpB_iff.2 fun x hx => by have := h.smp x hx; omega⟩
theorem drecords_spec {d : Dice} (hd : DOK d) {n : Int} (n0 : 0 ≤ n) (n1 : n ≤ 50) : ∃ l d' s, made_Dice_Records d n = some (l, d') ∧ srcB s = true ∧ (∀ r ∈ l, RQ s 6 r) ∧ (l.length : Int) ≤ n ∧ DOK d' := by
  unfold made_Dice_Records
  obtain ⟨s, d1, e1, hs, hd1⟩ := dsource_spec hd
  obtain ⟨k, d2, e2, k0, k1, hd2⟩ := next_spec hd1 (n := n + 1) (by omega) (by omega)
  rw [e1]; simp only [Option.bind_some]
  rw [w64_id (by omega) (by omega), e2]
  simp only [Option.bind_some]
  obtain ⟨e, he, hde, hl, hn⟩ := loop_ex (b1 := made_Dice_Records_l1 (s, d1))
    (fun m st => DOK ⟨st.1, st.2.1⟩ ∧ (∀ r ∈ st.2.2.1, RQ s 6 r) ∧ 0 ≤ st.2.2.2 ∧ st.2.2.2 + st.2.2.1.length ≤ n ∧ m = st.2.2.2.toNat)
    (fun e => DOK ⟨e.1, e.2.1⟩ ∧ (∀ r ∈ e.2.2, RQ s 6 r) ∧ (e.2.2.length : Int) ≤ n) (by
      rintro m ⟨L, At, out, i⟩ ⟨dok, hr, i0, i1, hm⟩
      simp only at dok hr i0 i1 hm
      by_cases hi : 0 < i
      · left
        have j1 : ∀ (L' : List Int) (At' : Int) (r : Record), DOK ⟨L', At'⟩ → RQ s 6 r → ∃ st' n', made_Dice_Records_j1 (L, At, out, i) L' At' r.Source.Network r.Source.Station r.Source.Location r.Source.Channel r.Start r.First r.Rate.Num r.Rate.Den r.Error r.Run r.Seq r.Samples = some (.inl st') ∧ (DOK ⟨st'.1, st'.2.1⟩ ∧ (∀ r ∈ st'.2.2.1, RQ s 6 r) ∧ 0 ≤ st'.2.2.2 ∧ st'.2.2.2 + st'.2.2.1.length ≤ n ∧ n' = st'.2.2.2.toNat) ∧ n' < m := by
          intro L' At' r hd' hq
          unfold made_Dice_Records_j1
          simp only
          rw [appM_one _ _ _ (by simp; omega) (by decide), w64_id (x := i - 1) (by omega) (by omega)]
          refine ⟨_, (i - 1).toNat, rfl, ⟨hd', fun q hq' => ?_, by simp only; omega, by simp; omega, rfl⟩, by omega⟩
          rcases List.mem_append.1 hq' with hq' | hq'
          · exact hr q hq'
          · rcases List.mem_singleton.1 hq' with rfl; exact hq
        obtain ⟨r, d3, e3, hrg, hd3⟩ := drecord_spec dok s (n := 6) (by decide) (by decide)
        unfold made_Dice_Records_l1
        simp only
        rw [if_pos (decide_eq_true hi), e3]
        simp only [Option.bind_some]
        by_cases hol : 0 < out.length
        · obtain ⟨z, d4, e4, z0, z1, hd4⟩ := next_spec hd3 (n := 5) (by decide) (by decide)
          rw [if_pos (decide_eq_true (by omega)), e4]
          simp only [Option.bind_some]
          by_cases hz : (z == 0) = true
          · rw [if_pos hz]
            obtain ⟨x, d5, y, e5, g5, m5, hd5⟩ := pickl_spec (d := ⟨d4.L, d4.At⟩) hd4 out (out.length : Int) rfl (by omega) (by omega)
            have hy := hr y m5
            rw [e5]
            simp only [Option.bind_some]
            rw [g5]
            simp only [Option.bind_some]
            obtain ⟨q, d6, e6, mq, hd6⟩ := pick_spec hd5 (l := [y.Seq, 9]) (by simp) (by simp)
            rw [e6]
            simp only [Option.bind_some]
            have hq : 0 ≤ q ∧ q ≤ 9 := by
              have a1 := hy.q0; have a2 := hy.q1
              simp only [List.mem_cons, List.not_mem_nil, or_false] at mq
              omega
            exact j1 d6.L d6.At ⟨y.Source, y.Start, y.First, y.Rate, y.Error, y.Run, q, y.Samples⟩ hd6 ⟨hy.src, hy.s0, hy.s1, hy.f0, hy.f1, hy.rv, hy.n3, hy.d3, hy.e0, hy.e1, hy.r0, hy.r1, hq.1, hq.2, hy.l0, hy.l1, hy.smp⟩
          · rw [if_neg hz]
            exact j1 d4.L d4.At r hd4 hrg.rq
        · rw [if_neg (by simpa using hol)]
          simp only [Option.bind_some, Bool.false_eq_true, if_false]
          exact j1 d3.L d3.At r hd3 hrg.rq
      · right
        unfold made_Dice_Records_l1
        simp only
        rw [if_neg (by simpa using hi)]
        exact ⟨_, rfl, dok, hr, by simp only; omega⟩) k.toNat (d2.L, d2.At, [], k) ⟨hd2, by simp, k0, by simp; omega, rfl⟩
  rw [he]
  exact ⟨_, _, s, rfl, hs, hl, hn, hde⟩

end Go.Proofs.YthdimlepjpnncaaGreat.Sh

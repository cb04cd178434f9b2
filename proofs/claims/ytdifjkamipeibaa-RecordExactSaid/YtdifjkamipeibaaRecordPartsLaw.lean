/- The law RecordParts as a plain program: it is true at every input. -/
import Derived.Test.YtdifjkamipeibaaRecS
import Derived.Test.YtdifjkamipeibaaDiceRec
namespace Go.Proofs.Ytdifjkamipeibaa.Sh
open Go
set_option linter.unusedVariables false
set_option linter.unusedSimpArgs false

theorem sane_rf : RF (⟨⟨⟨#[65]⟩, ⟨#[66]⟩, ByteArray.empty, ⟨#[72, 72, 90]⟩⟩, 0, 0, ⟨3, 1⟩, 0, 0, 0, [1, 2, 3, 4]⟩ : Record) :=
  ⟨by decide, by decide, by decide, by decide, by decide, by decide, by decide, by decide, by decide, by decide, by decide, rateVB_iff.1 (by decide), by decide, by decide, by decide, by decide⟩
theorem sane_true : law14_sane = some true := by
  unfold law14_sane
  have h2 : RF (subR ⟨⟨⟨#[65]⟩, ⟨#[66]⟩, ByteArray.empty, ⟨#[72, 72, 90]⟩⟩, 0, 0, ⟨3, 1⟩, 0, 0, 0, [1, 2, 3, 4]⟩ 2 4) := sane_rf.sub (by decide) (by decide)
  have e2 := Sub_eq sane_rf (a := 2) (b := 4) (by decide) (by decide)
  simp only [Int.cast_ofNat_Int] at e2
  rw [Span_eq sane_rf, e2, At_eq sane_rf (by decide) (by decide)]
  simp only [Option.bind]
  rw [At_eq h2 (by decide) (by decide), sane_rf.valid]
  decide

theorem law14_RecordParts_true (t : List Int) (n : Int) (ht : ∀ x ∈ t, -9223372036854775808 ≤ x ∧ x ≤ 9223372036854775807) (hn : 0 ≤ n ∧ n ≤ 255) : law14_RecordParts t n = some true := by
  unfold law14_RecordParts
  rw [light_spec]
  simp only [Option.bind]
  by_cases hl : t.length ≤ 500
  case neg =>
    rw [decide_eq_false hl, sane_true]
    rfl
  rw [decide_eq_true hl]
  simp only [Bool.not_true, Bool.false_eq_true, if_false, made_Roll]
  obtain ⟨s, d1, es, hs, hd1⟩ := dsource_spec (DOK.roll hl)
  obtain ⟨r, d2, er, hr, hd2⟩ := drecord_spec hd1 s (n := 12) (by decide) (by decide)
  rw [es]; simp only
  rw [er]; simp only
  have h := hr.rf hs (by decide)
  have l12 := hr.l1
  by_cases h2 : r.Samples.length < 2
  · rw [if_pos (decide_eq_true (by omega)), sane_true]
  rw [if_neg (by simp; omega), w64_id (x := n) (by omega) (by omega), w64_id (x := (r.Samples.length : Int) - 1) (by omega) (by omega), rem_nn (by omega) hn.1]
  simp only
  obtain ⟨k, hk⟩ : ∃ k : Nat, 1 + n % ((r.Samples.length : Int) - 1) = k := ⟨_, (Int.toNat_of_nonneg (by have := Int.emod_nonneg n (show (r.Samples.length : Int) - 1 ≠ 0 by omega); omega)).symm⟩
  have hm := Int.emod_lt_of_pos n (show 0 < (r.Samples.length : Int) - 1 by omega)
  have hm0 := Int.emod_nonneg n (show (r.Samples.length : Int) - 1 ≠ 0 by omega)
  rw [w64_id (by omega) (by omega), hk]
  have k1 : 1 ≤ k := by omega
  have k2 : k < r.Samples.length := by omega
  have ha := h.sub (a := 0) (b := k) (by omega) (by omega)
  have hb := h.sub (a := k) (b := r.Samples.length) k2 (Nat.le_refl _)
  have e1 := Sub_eq h (a := 0) (b := k) (by omega) (by omega)
  have e2 := Sub_eq h (a := k) (b := r.Samples.length) k2 (Nat.le_refl _)
  rw [show ((0 : Nat) : Int) = 0 from rfl] at e1
  rw [e1]; simp only
  rw [e2]; simp only
  rw [Span_eq ha]; simp only
  rw [Span_eq hb]; simp only
  rw [Span_eq h]; simp only
  have la : (subR r 0 k).Samples.length = k := by rw [subR_len _ _ _ (by omega)]; omega
  have lb : (subR r k r.Samples.length).Samples.length = r.Samples.length - k := subR_len _ _ _ (Nat.le_refl _)
  simp only [subR_time, la, lb]
  have t1 : ((0 : Nat) : Int) + 0 = 0 := rfl
  have t2 : ((0 : Nat) : Int) + (k : Int) = (k : Int) + 0 := by omega
  have t3 : (k : Int) + ((r.Samples.length - k : Nat) : Int) = r.Samples.length := by omega
  rw [t1, t2, t3]
  simp only [bne_self_eq_false, Bool.or_self, Bool.false_eq_true, if_false]
  have hf : record_Follows (subR r 0 k) (subR r k r.Samples.length) 0 = some true := by
    unfold record_Follows
    rw [ha.valid, hb.valid]
    simp only [Option.bind, Bool.not_true, Bool.false_eq_true, if_false, record_in_eq]
    rw [record_time_eq hb (by decide) (by omega), record_time_eq ha (by omega) (Int.le_refl _)]
    simp only [subR_time, la, t2, Int.sub_self]
    simp only [subR, ba_refl, beq_self_eq_true, Bool.and_self, Bool.not_true, Bool.or_self, Bool.false_eq_true, if_false]
    decide
  rw [hf]
  simp only [Bool.not_true, Bool.false_eq_true, if_false]
  -- sample by sample
  have hj : ∀ (p : Record) (q i : Nat), RF p → (hq : q < p.Samples.length) → (hi : i < r.Samples.length) → timeR p q = timeR r i → p.Samples[q] = r.Samples[i] →
      law14_RecordParts_j1 (r, d2) i (timeR r i, 0) p.Source.Network p.Source.Station p.Source.Location p.Source.Channel p.Start p.First p.Rate.Num p.Rate.Den p.Error p.Run p.Seq p.Samples q = some (.inl ((i + 1 : Nat) : Int)) := by
    intro p q i hp hq hi ht hx
    unfold law14_RecordParts_j1
    have := At_eq hp (i := q) (by omega) (by omega)
    have l1 := h.l1
    rw [this]
    simp only [Option.bind, ht, bne_self_eq_false, Bool.or_self, Bool.false_eq_true, if_false]
    rw [ix_nat _ _ hq, ix_nat _ _ hi]
    simp only [hx, bne_self_eq_false, Bool.false_eq_true, if_false]
    rw [w64_id (by omega) (by omega)]
    rfl
  refine whileM_for' (fun i => (i : Int)) r.Samples.length _ rfl (fun i hi => ?_) ?_
  · unfold law14_RecordParts_l2
    simp only
    rw [if_pos (decide_eq_true (by omega)), At_eq h (by omega) (by omega)]
    simp only [Option.bind]
    by_cases hki : k ≤ i
    · rw [if_pos (decide_eq_true (by omega)), w64_id (by omega) (by omega), show (i : Int) - (k : Int) = ((i - k : Nat) : Int) by omega]
      refine hj _ (i - k) i hb (by omega) hi ?_ ?_
      · rw [subR_time]; congr 1; omega
      · simp only [subR, List.take_length, List.getElem_drop]
        congr 1; omega
    · rw [if_neg (by simpa using hki)]
      refine hj _ i i ha (by omega) hi ?_ ?_
      · rw [subR_time]; congr 1; omega
      · simp only [subR, List.drop_zero, List.getElem_take]
  · unfold law14_RecordParts_l2
    simp only
    rw [if_neg (by simp)]
    obtain ⟨m, d3, em, m0, m1, hd3⟩ := next_spec hd2 (n := ((subR r k r.Samples.length).Samples.length : Int)) (by omega) (by omega)
    rw [em]
    simp only [Option.bind]
    obtain ⟨q, rfl⟩ := Int.eq_ofNat_of_zero_le m0
    rw [Sub_eq hb (by omega) (Nat.le_refl _)]
    simp only
    rw [w64_id (by omega) (by omega), show (k : Int) + (q : Int) = ((k + q : Nat) : Int) by omega, Sub_eq h (by omega) (Nat.le_refl _)]
    simp only [beq_self_eq_true, Bool.and_self, if_true]
    have e : subR (subR r k r.Samples.length) q (subR r k r.Samples.length).Samples.length = subR r (k + q) r.Samples.length := by
      rw [lb]
      simp only [subR, List.take_length]
      rw [List.take_of_length_le (by simp), List.drop_drop]
      congr 1
      omega
    rw [e, Same_refl (by rw [subR_len _ _ _ (Nat.le_refl _)]; omega)]
    simp only [if_true]
    rw [sane_true]
    rfl

end Go.Proofs.Ytdifjkamipeibaa.Sh

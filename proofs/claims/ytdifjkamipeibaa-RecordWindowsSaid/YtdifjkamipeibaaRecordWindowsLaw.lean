/- The law RecordWindows as a plain program: it is true at every input. -/
import Derived.Test.YtdifjkamipeibaaSearch
import Derived.Test.YtdifjkamipeibaaRefRec
import Derived.Test.YtdifjkamipeibaaRecordPartsLaw
namespace Go.Proofs.Ytdifjkamipeibaa.Sh
open Go
set_option linter.unusedVariables false
set_option linter.unusedSimpArgs false

/-- how many of the first i samples lie from a on and ahead of b -/
def cnt (a b i : Nat) : Int := ((min i b - a : Nat) : Int)
theorem cnt_in {a b i : Nat} (h1 : a ≤ i) (h2 : i < b) : cnt a b i = ((i - a : Nat) : Int) ∧ cnt a b (i + 1) = cnt a b i + 1 := by
  unfold cnt; omega
theorem cnt_out {a b i : Nat} (h : i < a ∨ b ≤ i) : cnt a b (i + 1) = cnt a b i := by
  unfold cnt; omega

theorem partR_len {r : Record} {a b : Nat} (hb : b ≤ r.Samples.length) : ((partR r a b).1.Samples.length : Int) = ((b - a : Nat) : Int) := by
  unfold partR
  by_cases h : a < b
  · rw [if_pos h]; simp only; rw [subR_len _ _ _ hb]
  · rw [if_neg h]; simp only [List.length_nil]; omega
theorem partR_has {r : Record} {a b : Nat} : (partR r a b).2.1 = decide (a < b) := by
  unfold partR
  by_cases h : a < b
  · rw [if_pos h, decide_eq_true h]
  · rw [if_neg h, decide_eq_false h]
theorem partR_err {r : Record} {a b : Nat} : (partR r a b).2.2 = 0 := by
  unfold partR
  by_cases h : a < b
  · rw [if_pos h]
  · rw [if_neg h]
theorem partR_at {r : Record} {a b i : Nat} (h1 : a ≤ i) (h2 : i < b) (hb : b ≤ r.Samples.length) : ix (partR r a b).1.Samples ((i - a : Nat) : Int) = some (r.Samples[i]'(by omega)) := by
  unfold partR
  rw [if_pos (by omega)]
  have hl := subR_len r a b hb
  simp only
  rw [ix_nat _ _ (by omega)]
  congr 1
  simp only [subR, List.getElem_drop, List.getElem_take]
  congr 1
  omega

theorem law14_RecordWindows_true (t : List Int) (n m : Int) (ht : ∀ x ∈ t, -9223372036854775808 ≤ x ∧ x ≤ 9223372036854775807) (hn : 0 ≤ n ∧ n ≤ 255) (hm : 0 ≤ m ∧ m ≤ 255) : law14_RecordWindows t n m = some true := by
  unfold law14_RecordWindows
  rw [light_spec]
  simp only [Option.bind]
  by_cases hl : t.length ≤ 500
  case neg =>
    rw [decide_eq_false hl, sane_true]
    rfl
  rw [decide_eq_true hl]
  simp only [Bool.not_true, Bool.false_eq_true, if_false, made_Roll]
  obtain ⟨s, d1, es, hs, hd1⟩ := dsource_spec (DOK.roll hl)
  obtain ⟨r, d2, er, hr, hd2⟩ := drecord_spec hd1 s (n := 12) (by decide) (by decide)
  rw [es]; simp only
  rw [er]; simp only
  have h := hr.rf hs (by decide)
  have l0 := hr.l0
  have l12 := hr.l1
  rw [h.refSpan]
  simp only
  have hn40 : (n.tmod 40) = n % 40 := Int.tmod_eq_emod_of_nonneg hn.1
  have hm40 : (m.tmod 40) = m % 40 := Int.tmod_eq_emod_of_nonneg hm.1
  -- the times of such a record
  have ts : 1000000000000 ≤ timeR r 0 ∧ timeR r r.Samples.length ≤ 1000100000000 := by
    have s0 := hr.s0
    have s1 := hr.s1
    have f0 := hr.f0
    have f1 := hr.f1
    have d0 := hr.rv.d0
    have d3 := hr.d3
    have n0 := hr.rv.n0
    have k1 : (r.First + r.Samples.length) * (r.Rate.Den * 1000000) ≤ 15 * 3000000 := Int.mul_le_mul (by omega) (by omega) (by omega) (by omega)
    have k0 : 0 ≤ (r.First + r.Samples.length) * (r.Rate.Den * 1000000) := Int.mul_nonneg (by omega) (by omega)
    have k2 := Int.ediv_le_self r.Rate.Num k0
    have j0 : 0 ≤ (r.First + 0) * (r.Rate.Den * 1000000) / r.Rate.Num := Int.ediv_nonneg (Int.mul_nonneg (by omega) (by omega)) (by omega)
    unfold timeR
    omega
  have hts : ∀ i : Nat, i ≤ r.Samples.length → 1000000000000 ≤ timeR r i ∧ timeR r i ≤ 1000100000000 := fun i hi => by
    have a1 := h.mono (i := 0) (j := i) (by omega)
    have a2 := h.mono (i := i) (j := r.Samples.length) (by omega)
    omega
  have h00 : 1000000000000 ≤ timeR r 0 ∧ timeR r 0 ≤ 1000100000000 := hts 0 (by omega)
  rw [w64_id (x := n) (by omega) (by omega), w64_id (x := m) (by omega) (by omega), hn40, hm40, w64_id (x := 111111 * (n % 40)) (by omega) (by omega), w64_id (x := 111111 * (m % 40)) (by omega) (by omega)]
  rw [w64_id (x := timeR r 0 + 111111 * (n % 40)) (by omega) (by omega), w64_id (x := timeR r 0 + 111111 * (n % 40) - 500000) (by omega) (by omega)]
  obtain ⟨f, hf⟩ : ∃ f, timeR r 0 + 111111 * (n % 40) - 500000 = f := ⟨_, rfl⟩
  rw [hf, w64_id (x := f + 111111 * (m % 40)) (by omega) (by omega)]
  obtain ⟨q, hq⟩ : ∃ q, f + 111111 * (m % 40) = q := ⟨_, rfl⟩
  rw [hq]
  have hfq : f ≤ q := by omega
  obtain ⟨a, b, c1, al, bl, a1, a2, b1, b2⟩ := Cut_spec h f q
  obtain ⟨a', e, c2, al', el, a1', a2', e1, e2⟩ := Inside_spec h f q
  have haa : a' = a := by
    rcases Nat.lt_trichotomy a' a with hlt | heq | hlt
    · have x1 := a1 a' hlt
      have x2 := a2' a' (Nat.le_refl _) (by omega)
      omega
    · exact heq
    · have x1 := a1' a hlt
      have x2 := a2 a (Nat.le_refl _) (by omega)
      omega
  subst haa
  have hab : a' ≤ b := by
    rcases Nat.lt_or_ge b a' with hlt | hge
    · have x1 := a1 b hlt
      have x2 := b2 b (Nat.le_refl _) (by omega)
      omega
    · exact hge
  rw [c1]
  simp only
  rw [c2]
  simp only [partR_err, bne_self_eq_false, Bool.or_self, Bool.false_eq_true, if_false]
  have l1 := h.l1
  refine whileM_for' (fun i => (cnt a' b i, cnt a' e i, (i : Int))) r.Samples.length _ (by simp [cnt]) (fun i hi => ?_) ?_
  · unfold law14_RecordWindows_l2
    simp only
    rw [if_pos (decide_eq_true (by omega)), h.refAt (by omega) (by omega), w64_id (x := (i : Int) + 1) (by omega) (by omega), h.refAt (by omega) (by omega)]
    simp only [Option.bind]
    -- the second part of the round
    have j1 : ∀ cut, law14_RecordWindows_j1 (r, d2) f q (partR r a' e) (cnt a' b i, cnt a' e i, (i : Int)) (timeR r i, 0) (timeR r (i + 1), 0) cut = some (.inl (cut, cnt a' e (i + 1), ((i + 1 : Nat) : Int))) := by
      intro cut
      unfold law14_RecordWindows_j1
      simp only
      have fin : ∀ v : Int, law14_RecordWindows_j2 (cnt a' b i, cnt a' e i, (i : Int)) cut v = some (.inl (cut, v, ((i + 1 : Nat) : Int))) := by
        intro v
        unfold law14_RecordWindows_j2
        simp only
        rw [w64_id (by omega) (by omega)]
        rfl
      by_cases hin : a' ≤ i ∧ i < e
      · have x1 := a2 i hin.1 hi
        have x2 := e1 i hin.2
        have hc := cnt_in hin.1 hin.2
        rw [decide_eq_true x1, decide_eq_true x2]
        simp only [Bool.and_self, if_true, partR_has, partR_len el]
        rw [decide_eq_true (show a' < e by omega), decide_eq_false (show ¬ (((e - a' : Nat) : Int) ≤ cnt a' e i) by rw [hc.1]; omega)]
        simp only [Bool.not_true, Bool.or_self, Bool.false_eq_true, if_false]
        rw [hc.1, partR_at hin.1 hin.2 el]
        simp only [Option.bind]
        rw [ix_nat _ _ hi]
        simp only [bne_self_eq_false, Bool.false_eq_true, if_false]
        rw [w64_id (by omega) (by omega), ← hc.1, ← hc.2]
        exact fin _
      · have hout : i < a' ∨ e ≤ i := by omega
        rw [cnt_out hout]
        have hno : ((decide (f ≤ timeR r i)) && (decide (timeR r (i + 1) ≤ q))) = false := by
          rcases hout with ho | ho
          · have := a1 i ho
            rw [decide_eq_false (by omega)]; rfl
          · have := e2 i ho hi
            rw [decide_eq_false (show ¬ timeR r (i + 1) ≤ q by omega), Bool.and_false]
        rw [hno]
        simp only [Bool.false_eq_true, if_false]
        exact fin _
    by_cases hin : a' ≤ i ∧ i < b
    · have x1 := a2 i hin.1 hi
      have x2 := b1 i hin.2
      have hc := cnt_in hin.1 hin.2
      rw [decide_eq_true x1, decide_eq_true x2]
      simp only [Bool.and_self, if_true, partR_has, partR_len bl]
      rw [decide_eq_true (show a' < b by omega), decide_eq_false (show ¬ (((b - a' : Nat) : Int) ≤ cnt a' b i) by rw [hc.1]; omega)]
      simp only [Bool.not_true, Bool.or_self, Bool.false_eq_true, if_false]
      rw [hc.1, partR_at hin.1 hin.2 bl]
      simp only [Option.bind]
      rw [ix_nat _ _ hi]
      simp only [bne_self_eq_false, Bool.false_eq_true, if_false]
      rw [w64_id (by omega) (by omega), ← hc.1, ← hc.2]
      exact j1 _
    · have hout : i < a' ∨ b ≤ i := by omega
      have hno : ((decide (f ≤ timeR r i)) && (decide (timeR r i < q))) = false := by
        rcases hout with ho | ho
        · have := a1 i ho
          rw [decide_eq_false (by omega)]; rfl
        · have := b2 i ho hi
          rw [decide_eq_false (show ¬ timeR r i < q by omega), Bool.and_false]
      rw [hno, cnt_out hout]
      simp only [Bool.false_eq_true, if_false]
      exact j1 _
  · unfold law14_RecordWindows_l2
    simp only
    rw [if_neg (by simp)]
    obtain ⟨x, y, c3, xl, yl, x1, x2, y1, y2⟩ := Cut_spec h 0 f
    obtain ⟨u, v, c4, ul, vl, u1, u2, v1, v2⟩ := Cut_spec h q 9007199254740992
    have hx : x = 0 := by
      rcases Nat.eq_zero_or_pos x with h0 | h0
      · exact h0
      · have := x1 0 h0
        have := hts 0 (by omega)
        omega
    have hy : y = a' := by
      rcases Nat.lt_trichotomy y a' with hlt | heq | hlt
      · have z1 := a1 y hlt
        have z2 := y2 y (Nat.le_refl _) (by omega)
        omega
      · exact heq
      · have z1 := y1 a' hlt
        have z2 := a2 a' (Nat.le_refl _) (by omega)
        omega
    have hu : u = b := by
      rcases Nat.lt_trichotomy u b with hlt | heq | hlt
      · have z1 := b1 u hlt
        have z2 := u2 u (Nat.le_refl _) (by omega)
        omega
      · exact heq
      · have z1 := u1 b hlt
        have z2 := b2 b (Nat.le_refl _) (by omega)
        omega
    have hv : v = r.Samples.length := by
      rcases Nat.lt_or_ge v r.Samples.length with hlt | hge
      · have z1 := v2 v (Nat.le_refl _) hlt
        have z2 := hts v (by omega)
        omega
      · omega
    subst hx hy hu hv
    rw [c3]
    simp only [Option.bind]
    rw [c4]
    simp only [partR_has, partR_len al, partR_len vl]
    have c0 : cnt y u r.Samples.length = ((u - y : Nat) : Int) := by unfold cnt; omega
    have c0' : cnt y e r.Samples.length = ((e - y : Nat) : Int) := by unfold cnt; omega
    have fin : ∀ k : Int, k = ((y + (r.Samples.length - u) : Nat) : Int) → law14_RecordWindows_j4 (r, d2) (partR r y u) (partR r y e) (cnt y u r.Samples.length, cnt y e r.Samples.length, (r.Samples.length : Int)) (partR r 0 y) (partR r u r.Samples.length) k = some true := by
      intro k hk
      unfold law14_RecordWindows_j4
      simp only [partR_has, partR_err, partR_len al, partR_len bl, partR_len el, c0, c0']
      have w1 : w64 (k + ((u - y : Nat) : Int)) = (r.Samples.length : Int) := by rw [w64_id (by omega) (by omega)]; omega
      have w2 : decide ((0 : Int) < ((u - y : Nat) : Int)) = decide (y < u) := by rw [decide_eq_decide]; omega
      have w3 : decide ((0 : Int) < ((e - y : Nat) : Int)) = decide (y < e) := by rw [decide_eq_decide]; omega
      rw [w1, w2, w3]
      simp only [beq_self_eq_true, Bool.and_self, if_true, sane_true]
      rfl
    have mid : ∀ k : Int, k = (y : Int) → law14_RecordWindows_j3 (r, d2) (partR r y u) (partR r y e) (cnt y u r.Samples.length, cnt y e r.Samples.length, (r.Samples.length : Int)) (partR r 0 y) (partR r u r.Samples.length) k = some true := by
      intro k hk
      unfold law14_RecordWindows_j3
      simp only [partR_has, partR_len vl]
      by_cases hc : u < r.Samples.length
      · rw [if_pos (decide_eq_true hc), w64_id (by omega) (by omega)]
        exact fin _ (by omega)
      · rw [if_neg (by simpa using hc)]
        exact fin _ (by omega)
    by_cases hc : 0 < y
    · rw [if_pos (decide_eq_true hc), w64_id (by omega) (by omega)]
      simp only [Option.map]
      rw [mid _ (by omega)]
    · rw [if_neg (by simpa using hc)]
      simp only [Option.map]
      rw [mid _ (by omega)]

end Go.Proofs.Ytdifjkamipeibaa.Sh

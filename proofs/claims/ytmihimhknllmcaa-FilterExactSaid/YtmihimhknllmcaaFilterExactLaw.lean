/- The law FilterExact as a plain program: it is true at every input. -/
import Derived.Test.YtmihimhknllmcaaFltPair
namespace Go.Proofs.Ytmihimhknllmcaa.Sh
open Go
set_option linter.unusedVariables false
set_option linter.unusedSimpArgs false

theorem conv2 (a b : Filter) (ha : a.Taps.length ≤ 1000) (hb : b.Taps.length ≤ 1000) : ∃ z e, filter_Convolve a b = some (z, e) ∧ ref21_Convolve a b = some (z, e) ∧ z.Taps.length ≤ 1000 := by
  obtain ⟨va, h1, h2, ha'⟩ := valid2 a ha
  obtain ⟨vb, h3, h4, hb'⟩ := valid2 b hb
  unfold filter_Convolve ref21_Convolve
  rw [h1, h2, h3, h4]
  cases va with
  | false => exact ⟨_, _, rfl, rfl, by simp⟩
  | true =>
    cases vb with
    | false => exact ⟨_, _, rfl, rfl, by simp⟩
    | true =>
      have l1 := (ha' rfl).l1; have l2 := (ha' rfl).l2; have l3 := (hb' rfl).l1; have l4 := (hb' rfl).l2
      simp only [Option.bind, Bool.not_true, Bool.false_eq_true, if_false]
      cases hF : ((a.Factor != 1) || (b.Factor != 1)) with
      | true => exact ⟨_, _, rfl, rfl, by simp⟩
      | false =>
        simp only [Bool.false_eq_true, if_false]
        have ew : w64 ((w64 ((a.Taps.length : Int) + (b.Taps.length : Int))) - 1) = ((a.Taps.length + b.Taps.length - 1 : Nat) : Int) := by
          rw [w64_id (x := (a.Taps.length : Int) + _) (by omega) (by omega), w64_id (by omega) (by omega)]; omega
        rw [ew, makeM_at _ _ _ (by omega) (by omega) (by decide)]
        simp only [Int.toNat_natCast, List.length_replicate]
        cases hG : ((decide (128 < ((a.Taps.length + b.Taps.length - 1 : Nat) : Int))) || (decide (30 < (w64 (a.Shift + b.Shift))))) with
        | true => exact ⟨_, _, rfl, rfl, by simp⟩
        | false =>
          simp only [Bool.false_eq_true, if_false]
          have inner : ∀ (i : Nat) (hi : i < a.Taps.length) (o : List Int), o.length = a.Taps.length + b.Taps.length - 1 →
              ∃ o', whileM (filter_Convolve_l6 b (o, (i : Int)) a.Taps[i]) (o, 0) = some o' ∧ whileM (ref21_Convolve_l6 a b (o, (i : Int))) (o, 0) = some o' ∧ o'.length = a.Taps.length + b.Taps.length - 1 := by
            intro i hi o ho
            obtain ⟨r, q, e1, e2, rfl, hl⟩ := sim (b1 := filter_Convolve_l6 b (o, (i : Int)) a.Taps[i]) (b2 := ref21_Convolve_l6 a b (o, (i : Int)))
              (fun n s t => ∃ (p : List Int) (j : Nat), s = (p, (j : Int)) ∧ t = (p, (j : Int)) ∧ n + j = b.Taps.length ∧ p.length = a.Taps.length + b.Taps.length - 1) (fun r q => r = q ∧ r.length = a.Taps.length + b.Taps.length - 1)
              (fun n s t ⟨p, j, es, et, hn, hp⟩ => by
                subst es; subst et
                by_cases hj : j < b.Taps.length
                · left
                  have e3 : w64 ((i : Int) + (j : Int)) = ((i + j : Nat) : Int) := by rw [w64_id (by omega) (by omega)]; omega
                  refine ⟨_, _, n - 1, ?_, ?_, ⟨p.set (i + j) (w64 ((p[i + j]'(by omega)) + w64 (a.Taps[i] * b.Taps[j]))), j + 1, rfl, rfl, by omega, by simp; omega⟩, by omega⟩
                  · simp only [filter_Convolve_l6]
                    rw [if_pos (decide_eq_true (by omega)), ix_nat _ _ hj, e3, ix_nat _ _ (show i + j < p.length by omega)]
                    simp only [Option.bind]
                    rw [setM_at _ _ _ (by omega) (by omega)]
                    simp only [Int.toNat_natCast]
                    rw [w64_id (x := (j : Int) + 1) (by omega) (by omega)]; rfl
                  · simp only [ref21_Convolve_l6]
                    rw [if_pos (decide_eq_true (by omega)), ix_nat _ _ hj, ix_nat _ _ hi, e3, ix_nat _ _ (show i + j < p.length by omega)]
                    simp only [Option.bind]
                    rw [setM_at _ _ _ (by omega) (by omega)]
                    simp only [Int.toNat_natCast]
                    rw [w64_id (x := (j : Int) + 1) (by omega) (by omega)]; rfl
                · right
                  refine ⟨p, p, ?_, ?_, rfl, hp⟩
                  · simp only [filter_Convolve_l6]
                    rw [if_neg (by simp; omega)]
                  · simp only [ref21_Convolve_l6]
                    rw [if_neg (by simp; omega)]) b.Taps.length (o, 0) (o, 0) ⟨o, 0, rfl, rfl, rfl, ho⟩
            exact ⟨r, e1, e2, hl⟩
          obtain ⟨r, q, e1, e2, rfl, hl⟩ := sim (b1 := filter_Convolve_l3 a b) (b2 := ref21_Convolve_l3 a b)
            (fun n s t => ∃ (p : List Int) (i : Nat), s = (p, (i : Int)) ∧ t = (p, (i : Int)) ∧ n + i = a.Taps.length ∧ p.length = a.Taps.length + b.Taps.length - 1) (fun r q => r = q ∧ r.length = a.Taps.length + b.Taps.length - 1)
            (fun n s t ⟨p, i, es, et, hn, hp⟩ => by
              subst es; subst et
              by_cases hi : i < a.Taps.length
              · left
                obtain ⟨o', i1, i2, i3⟩ := inner i hi p hp
                refine ⟨_, _, n - 1, ?_, ?_, ⟨o', i + 1, rfl, rfl, by omega, i3⟩, by omega⟩
                · simp only [filter_Convolve_l3]
                  rw [if_pos (decide_eq_true (by omega)), ix_nat _ _ hi]
                  simp only [Option.bind]
                  rw [i1]
                  simp only
                  rw [w64_id (x := (i : Int) + 1) (by omega) (by omega)]; rfl
                · simp only [ref21_Convolve_l3]
                  rw [if_pos (decide_eq_true (by omega)), i2]
                  simp only [Option.bind]
                  rw [w64_id (x := (i : Int) + 1) (by omega) (by omega)]; rfl
              · right
                refine ⟨p, p, ?_, ?_, rfl, hp⟩
                · simp only [filter_Convolve_l3]
                  rw [if_neg (by simp; omega)]
                · simp only [ref21_Convolve_l3]
                  rw [if_neg (by simp; omega)]) a.Taps.length (List.replicate (a.Taps.length + b.Taps.length - 1) 0, 0) (List.replicate (a.Taps.length + b.Taps.length - 1) 0, 0)
            ⟨_, 0, rfl, rfl, rfl, by simp⟩
          rw [e1, e2]
          exact ⟨_, _, rfl, rfl, by simp only; omega⟩

theorem terms2 (l : List Int) (hl : l.length ≤ 1000) : ∃ b, response_terms l = some b ∧ ref18_terms l = some b := by
  refine ⟨_, terms_spec l (by omega), ?_⟩
  have : (l.all fun x => ((decide (-1048576 ≤ x)) && (decide (x ≤ 1048576)))) = !(l.any fun x => !((decide (-1048576 ≤ x)) && (decide (x ≤ 1048576)))) := by
    rw [List.not_any_eq_all_not]; simp
  rw [← this, ← range_all l _ (fun i => ((decide (-1048576 ≤ l.getD i 0)) && (decide (l.getD i 0 ≤ 1048576)))) (fun i hi => by simp [List.getD_eq_getElem?_getD, hi])]
  unfold ref18_terms
  rw [loop_all l.length (fun i => ((decide (-1048576 ≤ l.getD i 0)) && (decide (l.getD i 0 ≤ 1048576)))) false true]
  · cases (List.range l.length).all (fun i => ((decide (-1048576 ≤ l.getD i 0)) && (decide (l.getD i 0 ≤ 1048576)))) <;> rfl
  · intro i hi hp
    simp only [List.getD_eq_getElem?_getD, List.getElem?_eq_getElem hi, Option.getD_some] at hp
    simp only [ref18_terms_l2]
    rw [if_pos (decide_eq_true (by omega)), ix_nat _ _ hi]
    simp only [Option.bind, ref01_In, hp, Bool.not_true, Bool.false_eq_true, if_false]
    rw [w64_id (by omega) (by omega)]; rfl
  · intro i hi hp
    simp only [List.getD_eq_getElem?_getD, List.getElem?_eq_getElem hi, Option.getD_some] at hp
    simp only [ref18_terms_l2]
    rw [if_pos (decide_eq_true (by omega)), ix_nat _ _ hi]
    simp only [Option.bind, ref01_In, hp]; rfl
  · simp only [ref18_terms_l2]
    rw [if_neg (by simp)]; rfl

theorem total2 (l : List Int) (hl : l.length ≤ 1000) : ∃ z, response_sum l = some z ∧ ref18_total l = some z := by
  obtain ⟨r, q, e1, e2, rfl⟩ := sim (b1 := response_sum_l1 l) (b2 := ref18_total_l1 l) (fun n s t => ∃ (a : Int) (i : Nat), s = (a, (i : Int)) ∧ t = (a, (i : Int)) ∧ n + i = l.length) (fun r q => r = q)
    (fun n s t ⟨a, i, es, et, hn⟩ => by
      subst es; subst et
      by_cases hi : i < l.length
      · left
        refine ⟨_, _, n - 1, ?_, ?_, ⟨w64 (a + l[i]), i + 1, rfl, rfl, by omega⟩, by omega⟩
        · simp only [response_sum_l1]
          rw [if_pos (decide_eq_true (by omega)), ix_nat _ _ hi]
          simp only [Option.bind]
          rw [w64_id (x := (i : Int) + 1) (by omega) (by omega)]; rfl
        · simp only [ref18_total_l1]
          rw [if_pos (decide_eq_true (by omega)), ix_nat _ _ hi]
          simp only [Option.bind]
          rw [w64_id (x := (i : Int) + 1) (by omega) (by omega)]; rfl
      · right
        refine ⟨a, a, ?_, ?_, rfl⟩
        · simp only [response_sum_l1]
          rw [if_neg (by simp; omega)]
        · simp only [ref18_total_l1]
          rw [if_neg (by simp; omega)]) l.length (0, 0) (0, 0) ⟨0, 0, rfl, rfl, rfl⟩
  refine ⟨r, ?_, ?_⟩
  · unfold response_sum; rw [e1]; rfl
  · unfold ref18_total; rw [e2]; rfl

theorem vstage2 (s : Stage) (hs : s.Kind = 2 → s.Taps.length ≤ 1000) : ∃ b, response_ValidStage s = some b ∧ ref18_ValidStage s = some b := by
  unfold response_ValidStage ref18_ValidStage
  cases k0 : (s.Kind == 0) with
  | true =>
    simp only [if_true, response_in, ref01_In, beq_self_eq_true, Bool.true_and, Bool.and_true]
    generalize ((((s.Taps.length : Int) == 0) && (s.Factor == 0)) && (s.Shift == 0)) = P
    generalize (s.Num.e1 == 0) = A
    generalize (s.Num.e2 == 0) = B
    generalize (s.Den.e1 == 0) = C
    generalize (s.Den.e2 == 0) = D
    generalize ((decide (1 ≤ s.Num.e0)) && (decide (s.Num.e0 ≤ 1048576))) = E
    generalize ((decide (1 ≤ s.Den.e0)) && (decide (s.Den.e0 ≤ 1048576))) = F
    cases P <;> cases A <;> cases B <;> cases C <;> cases D <;> cases E <;> cases F <;> exact ⟨_, rfl, rfl⟩
  | false =>
    simp only [Bool.false_eq_true, if_false]
    cases k1 : (s.Kind == 1) with
    | true =>
      simp only [if_true]
      obtain ⟨t1, a1, a2⟩ := terms2 [s.Num.e0, s.Num.e1, s.Num.e2] (by simp)
      obtain ⟨t2, a3, a4⟩ := terms2 [s.Den.e0, s.Den.e1, s.Den.e2] (by simp)
      rw [a1, a2, a3, a4]
      generalize ((((s.Taps.length : Int) == 0) && (s.Factor == 0)) && (s.Shift == 0)) = P
      cases P <;> cases t1 <;> cases t2 <;> exact ⟨_, rfl, rfl⟩
    | false =>
      simp only [Bool.false_eq_true, if_false]
      cases k2 : (s.Kind == 2) with
      | true =>
        have hl := hs (by simpa using k2)
        simp only [if_true]
        obtain ⟨t1, a1, a2⟩ := terms2 s.Taps hl
        obtain ⟨z, a3, a4⟩ := total2 s.Taps hl
        rw [a1, a2, a3, a4]
        simp only [response_in, ref01_In]
        generalize (((s.Num.e0 == 0) && ((s.Num.e1 == 0) && ((s.Num.e2 == 0) && true))) && ((s.Den.e0 == 0) && ((s.Den.e1 == 0) && ((s.Den.e2 == 0) && true)))) = P
        generalize ((decide ((1 : Int) ≤ s.Taps.length)) && (decide ((s.Taps.length : Int) ≤ 128))) = A
        generalize ((decide (1 ≤ s.Factor)) && (decide (s.Factor ≤ 64))) = B
        generalize ((decide (0 ≤ s.Shift)) && (decide (s.Shift ≤ 40))) = C
        cases hz : (z != 0) <;> cases P <;> cases A <;> cases B <;> cases C <;> cases t1 <;> simp [hz]
      | false => exact ⟨_, rfl, rfl⟩

theorem stage2 (s : Stage) (hs : s.Kind = 2 → s.Taps.length ≤ 1000) : ∃ f e, filter_Stage s = some (f, e) ∧ ref21_Stage s = some (f, e) ∧ f.Taps.length ≤ 1000 := by
  obtain ⟨b, h1, h2⟩ := vstage2 s hs
  unfold filter_Stage ref21_Stage
  rw [h1, h2]
  simp only [Option.bind]
  cases hc : ((!b) || (s.Kind != 2)) with
  | true => exact ⟨_, _, rfl, rfl, by simp⟩
  | false =>
    have hk : s.Kind = 2 := by
      rw [Bool.or_eq_false_iff] at hc
      simpa using hc.2
    have hl := hs hk
    simp only [Bool.false_eq_true, if_false]
    rw [clone_spec _ (by omega), appM_one _ _ _ (by simp; omega) (by decide)]
    simp only [List.nil_append]
    obtain ⟨v, h3, h4, _⟩ := valid2 ⟨s.Taps, s.Factor, s.Shift⟩ hl
    rw [h3, h4]
    cases v with
    | false => exact ⟨_, _, rfl, rfl, by simp⟩
    | true => exact ⟨_, _, rfl, rfl, hl⟩

theorem odd_spec {d : Dice} (hd : DOK d) {f : Filter} (hf : f.Taps.length ≤ 100) : ∃ g d', law21_odd d f = some (g, d') ∧ g.Taps.length ≤ 1000 ∧ DOK d' := by
  obtain ⟨n, d1, e1, _, _, hd1⟩ := next_spec hd (n := 5) (by decide) (by decide)
  unfold law21_odd
  rw [appM_one _ _ _ (by simp; omega) (by decide), e1]
  simp only [Option.bind, List.nil_append]
  cases c0 : (n == 0) with
  | true =>
    obtain ⟨x, d2, e2, _, hd2⟩ := pick_spec hd1 (l := [1, (-1), 1073741824, 2147483648]) (by decide) (by decide)
    simp only [if_true]
    rw [e2]
    simp only
    rw [appM_one _ _ _ (by simp; omega) (by decide)]
    exact ⟨_, _, rfl, by simp only [List.length_append, List.length_cons, List.length_nil]; omega, hd2⟩
  | false =>
    simp only [Bool.false_eq_true, if_false]
    cases c1 : (n == 1) with
    | true =>
      obtain ⟨x, d2, e2, _, hd2⟩ := pick_spec hd1 (l := [0, 64, 65]) (by decide) (by decide)
      simp only [if_true]
      rw [e2]
      exact ⟨_, _, rfl, by simp only; omega, hd2⟩
    | false =>
      simp only [Bool.false_eq_true, if_false]
      cases c2 : (n == 2) with
      | true =>
        obtain ⟨x, d2, e2, _, hd2⟩ := pick_spec hd1 (l := [(-1), 0, 30, 31]) (by decide) (by decide)
        simp only [if_true]
        rw [e2]
        exact ⟨_, _, rfl, by simp only; omega, hd2⟩
      | false =>
        simp only [Bool.false_eq_true, if_false]
        cases c3 : (n == 3) with
        | true => exact ⟨_, _, rfl, by simp, hd1⟩
        | false => exact ⟨_, _, rfl, by simp only; omega, hd1⟩

theorem rsame (f : Filter) (h : f.Taps.length ≤ 1000000000) : ref21_Same f f = some true := by
  unfold ref21_Same
  rw [same_spec _ _ h]
  simp
theorem fsame (w : Feed) (h : w.Filter.Taps.length ≤ 1000) (hp : w.Past.length ≤ 1000) : ref21_SameFeed w w = some true := by
  unfold ref21_SameFeed
  rw [rsame _ (by omega), same_spec _ _ (by omega)]
  simp
theorem lsame (l : List Int) (h : l.length ≤ 10000) : ref05_Same l l = some true := by
  rw [same_spec _ _ (by omega), decide_eq_true rfl]

theorem law21_FilterExact_true (t : List Int) (raw : Filter) (samples : List Int) (number : Int) (feed : Feed) (stage : Stage) : law21_FilterExact t raw samples number feed stage = some true := by
  unfold law21_FilterExact
  rw [light_spec]
  simp only [Option.bind]
  cases hc : ((((((!(decide (t.length ≤ 500))) || (decide (150 < (raw.Taps.length : Int)))) || (decide (80 < (samples.length : Int)))) || (decide (150 < (feed.Past.length : Int)))) || (decide (150 < (feed.Filter.Taps.length : Int)))) || (decide (150 < (stage.Taps.length : Int)))) with
  | true => simp only [if_true]; rw [sane_true]
  | false =>
    simp only [Bool.or_eq_false_iff, Bool.not_eq_false', decide_eq_true_iff, decide_eq_false_iff_not] at hc
    obtain ⟨⟨⟨⟨⟨hl, r1⟩, r2⟩, r3⟩, r4⟩, r5⟩ := hc
    simp only [Bool.false_eq_true, if_false, made_Roll]
    obtain ⟨f, d1, e1, hf, hd1⟩ := dfilter_spec (DOK.roll hl)
    obtain ⟨g, d2, e2, hg, hd2⟩ := dfilter_spec hd1
    obtain ⟨x, d3, e3, hx, _, hx2, hd3⟩ := samples_spec hd2 (n := 20) (by decide) (by decide)
    obtain ⟨o, d4, e4, ho, hd4⟩ := odd_spec hd3 (f := f) (by have := hf.l5; omega)
    rw [e1]; simp only
    rw [e2]; simp only
    rw [e3]; simp only
    rw [e4]; simp only
    have hf5 := hf.l5
    have hg5 := hg.l5
    -- the last loops
    have stages : ∀ (s : Stage) (d : Dice), (s.Kind = 2 → s.Taps.length ≤ 1000) → whileM (law21_FilterExact_l54 stage (s, d)) 0 = some true := by
      intro s d hs
      refine whileM_for' (fun i => (i : Int)) 2 _ rfl (fun i hi => ?_) ?_
      · obtain ⟨y, hy, ey⟩ := ix_mem [s, stage] i hi
        have hyl : y.Kind = 2 → y.Taps.length ≤ 1000 := by
          rcases (by simpa using hy : y = s ∨ y = stage) with rfl | rfl
          · exact hs
          · intro _; omega
        obtain ⟨z, e, h1, h2, h3⟩ := stage2 y hyl
        simp only [law21_FilterExact_l54]
        rw [if_pos (by simp; omega), ey]
        simp only [Option.bind]
        rw [h1, h2]
        simp only [bne_self_eq_false, Bool.false_eq_true, if_false]
        rw [rsame _ (by omega), w64_id (by omega) (by omega)]; rfl
      · simp only [law21_FilterExact_l54]
        rw [if_neg (by simp), sane_true]; rfl
    have pushes : ∀ (sv : Int) (y : Feed), y.Filter.Taps.length ≤ 1000 → y.Past.length ≤ 1000 → whileM (law21_FilterExact_l52 samples (x, d3) sv y) 0 = some (.inl (w64 (sv + 1))) := by
      intro sv y hy1 hy2
      refine whileM_for' (fun i => (i : Int)) 3 _ rfl (fun i hi => ?_) ?_
      · obtain ⟨z, hz, ez⟩ := ix_mem [x, samples, []] i hi
        have hzl : z.length ≤ 1000 := by
          rcases (by simpa using hz : z = x ∨ z = samples ∨ z = []) with rfl | rfl | rfl
          · omega
          · omega
          · simp
        obtain ⟨w, l, e, h1, h2, h3, h4, h5⟩ := push2 y hy1 hy2 z hzl
        obtain ⟨b, v1, v2, _⟩ := vfeed2 y hy1 hy2
        simp only [law21_FilterExact_l52]
        rw [if_pos (by simp; omega), ez]
        simp only [Option.bind]
        rw [h1, h2]
        simp only [bne_self_eq_false, Bool.false_eq_true, if_false]
        rw [lsame _ h5]
        simp only [Bool.not_true, Bool.false_eq_true, if_false]
        rw [fsame _ h3 h4]
        simp only [Bool.not_true, Bool.false_eq_true, if_false]
        rw [v1, v2]
        simp only [beq_self_eq_true, Bool.not_true, Bool.false_eq_true, if_false]
        rw [w64_id (by omega) (by omega)]; rfl
      · simp only [law21_FilterExact_l52]
        rw [if_neg (by simp)]; rfl
    have applies : ∀ (sv : Int) (y : Filter) (n : Int), y.Taps.length ≤ 1000 → ∀ l, l.length ≤ 1000 → whileM (law21_FilterExact_l41 samples (x, d3) y sv n l) 0 = some (.inl (w64 (sv + 1))) := by
      intro sv y n hy l hll
      refine whileM_for' (fun i => (i : Int)) 3 _ rfl (fun i hi => ?_) ?_
      · obtain ⟨z, hz, ez⟩ := ix_mem [x, samples, l] i hi
        have hzl : z.length ≤ 1000 := by
          rcases (by simpa using hz : z = x ∨ z = samples ∨ z = l) with rfl | rfl | rfl
          · omega
          · omega
          · omega
        obtain ⟨a, e, h1, h2, h3⟩ := apply2 y hy z (by omega) n
        simp only [law21_FilterExact_l41]
        rw [if_pos (by simp; omega), ez]
        simp only [Option.bind]
        rw [h1, h2]
        simp only [bne_self_eq_false, Bool.false_eq_true, if_false]
        rw [lsame _ h3, w64_id (by omega) (by omega)]; rfl
      · obtain ⟨w, e, h1, h2, h3, h4⟩ := start2 y hy n
        simp only [law21_FilterExact_l41]
        rw [if_neg (by simp), h1, h2]
        simp only [Option.bind, bne_self_eq_false, Bool.false_eq_true, if_false]
        rw [fsame _ h3 h4]; rfl
    have numbers : ∀ (sv : List Int × Int × Int) (y : Filter) (m : Int) (d : Dice), y.Taps.length ≤ 1000 → whileM (law21_FilterExact_l37 samples number (g, d2) (x, d3) sv y (m, d)) 0 = some (.inl (d.L, d.At, w64 (sv.2.2 + 1))) := by
      intro sv y m d hy
      refine whileM_for' (fun i => (i : Int)) 5 _ rfl (fun i hi => ?_) ?_
      · obtain ⟨n, hn, en⟩ := ix_mem [number, m, 9007199254740992, 9007199254740993, (-1)] i hi
        simp only [law21_FilterExact_l37]
        rw [if_pos (by simp; omega), en]
        simp only [Option.bind]
        rw [appM_one _ _ _ (by simp; omega) (by decide)]
        simp only
        rw [appM_one _ _ _ (by simp; omega) (by decide)]
        simp only
        rw [applies _ _ _ hy _ (by simp; omega), w64_id (by omega) (by omega)]; rfl
      · obtain ⟨z, e, h1, h2, h3⟩ := conv2 y g hy (by omega)
        simp only [law21_FilterExact_l37]
        rw [if_neg (by simp), h1, h2]
        simp only [Option.bind, bne_self_eq_false, Bool.false_eq_true, if_false]
        rw [rsame _ (by omega)]; rfl
    obtain ⟨r, er, hr⟩ := loop_ex (b1 := law21_FilterExact_l22 raw samples number feed stage (f, d1) (g, d2) (x, d3) (o, d4)) (fun n s => ∃ (i : Nat), s.2.2 = (i : Int) ∧ n + i = 3 ∧ DOK ⟨s.1, s.2.1⟩) (fun r => r = true)
      (fun n s ⟨i, hi, hn, hd⟩ => by
        obtain ⟨L, A, i'⟩ := s
        simp only at hi hd
        subst hi
        by_cases h3 : i < 3
        · left
          obtain ⟨y, hy, ey⟩ := ix_mem [f, o, raw] i h3
          have hyl : y.Taps.length ≤ 1000 := by
            rcases (by simpa using hy : y = f ∨ y = o ∨ y = raw) with rfl | rfl | rfl
            · omega
            · omega
            · omega
          obtain ⟨b, v1, v2, _⟩ := valid2 y hyl
          obtain ⟨m, d5, e5, _, _, hd5⟩ := next_spec hd (n := 9) (by decide) (by decide)
          refine ⟨(d5.L, d5.At, ((i + 1 : Nat) : Int)), n - 1, ?_, ⟨i + 1, rfl, by omega, hd5⟩, by omega⟩
          simp only [law21_FilterExact_l22]
          rw [if_pos (by simp; omega), ey]
          simp only [Option.bind]
          rw [v1, v2]
          simp only [beq_self_eq_true, Bool.not_true, Bool.false_eq_true, if_false]
          rw [e5]
          simp only
          rw [numbers _ _ _ _ hyl, w64_id (by simp only; omega) (by simp only; omega)]; rfl
        · right
          refine ⟨true, ?_, rfl⟩
          obtain ⟨m, d5, e5, _, _, hd5⟩ := next_spec hd (n := 9) (by decide) (by decide)
          obtain ⟨w, e, _, s2, w1, w2⟩ := start2 f (by omega) m
          obtain ⟨x6, d6, e6, _, _, hx6, hd6⟩ := samples_spec hd5 (n := 6) (by decide) (by decide)
          obtain ⟨w', l', e', _, p2, p3, p4, p5⟩ := push2 w w1 w2 x6 (by omega)
          obtain ⟨k, d7, e7, _, hd7⟩ := pick_spec hd6 (l := [0, (-1), 18014398509481984, 18014398509481985]) (by decide) (by decide)
          obtain ⟨s8, d8, e8, hs8, hd8⟩ := dstage_spec hd7
          simp only [law21_FilterExact_l22]
          rw [if_neg (by simp; omega), e5]
          simp only [Option.bind]
          rw [s2]
          simp only
          rw [e6]
          simp only
          rw [p2]
          simp only
          rw [e7]
          simp only
          have last : whileM (law21_FilterExact_l48 samples feed stage (x, d3) (w', l', e') (k, d7)) 0 = some true := by
            refine whileM_for' (fun i => (i : Int)) 3 _ rfl (fun i hi => ?_) ?_
            · obtain ⟨y, hy, ey⟩ := ix_mem [w', (⟨w'.Filter, w'.Past, k⟩ : Feed), feed] i hi
              have hyl : y.Filter.Taps.length ≤ 1000 ∧ y.Past.length ≤ 1000 := by
                rcases (by simpa using hy : y = w' ∨ y = (⟨w'.Filter, w'.Past, k⟩ : Feed) ∨ y = feed) with rfl | rfl | rfl
                · exact ⟨p3, p4⟩
                · exact ⟨p3, p4⟩
                · exact ⟨by omega, by omega⟩
              simp only [law21_FilterExact_l48]
              rw [if_pos (by simp; omega), ey]
              simp only [Option.bind]
              rw [pushes _ _ hyl.1 hyl.2, w64_id (by omega) (by omega)]; rfl
            · simp only [law21_FilterExact_l48]
              rw [if_neg (by simp), e8]
              simp only [Option.bind]
              rw [stages s8 d8 (fun hk => by
                rcases hs8 with h | h | h
                · rw [h] at hk; cases hk
                · rw [h] at hk; cases hk
                · have := h.2.l2; omega)]
              rfl
          rw [last]; rfl) 3 (d4.L, d4.At, 0) ⟨0, rfl, rfl, hd4⟩
    rw [er, hr]

end Go.Proofs.Ytmihimhknllmcaa.Sh

/- The law RecordOrder as a plain program: it is true at every input. -/
import Derived.Test.YtdifjkamipeibaaRecCmp
import Derived.Test.YtdifjkamipeibaaRecordPartsLaw
namespace Go.Proofs.Ytdifjkamipeibaa.Sh
open Go
set_option linter.unusedVariables false
set_option linter.unusedSimpArgs false

structure RsI (n : Int) (s : List Int × Int × List Record × Int) : Prop where
  dok : DOK ⟨s.1, s.2.1⟩
  all : ∀ r ∈ s.2.2.1, RF r
  i0 : 0 ≤ s.2.2.2
  i1 : s.2.2.2 + s.2.2.1.length ≤ n

theorem drecords_spec {d : Dice} (hd : DOK d) {n : Int} (n0 : 0 ≤ n) (n1 : n ≤ 100) : ∃ l d', made_Dice_Records d n = some (l, d') ∧ (∀ r ∈ l, RF r) ∧ (l.length : Int) ≤ n ∧ DOK d' := by
  unfold made_Dice_Records
  obtain ⟨s, d1, es, hs, hd1⟩ := dsource_spec hd
  rw [es]; simp only [Option.bind]
  rw [w64_id (x := n + 1) (by omega) (by omega)]
  obtain ⟨m, d2, em, m0, m1, hd2⟩ := next_spec hd1 (n := n + 1) (by omega) (by omega)
  rw [em]; simp only
  have hw := whileM_inv (body := made_Dice_Records_l1 (s, d1)) (RsI n) (fun s => s.2.2.2.toNat)
    (fun e => DOK ⟨e.1, e.2.1⟩ ∧ (∀ r ∈ e.2.2, RF r) ∧ (e.2.2.length : Int) ≤ n) (by
      intro q hq
      obtain ⟨dok, all, i0, i1⟩ := hq
      by_cases hi : 0 < q.2.2.2
      · left
        have fin : ∀ (L : List Int) (At : Int) (x : Record), DOK ⟨L, At⟩ → RF x →
            ∃ s', made_Dice_Records_j1 q L At x.Source.Network x.Source.Station x.Source.Location x.Source.Channel x.Start x.First x.Rate.Num x.Rate.Den x.Error x.Run x.Seq x.Samples = some (.inl s') ∧ RsI n s' ∧ s'.2.2.2.toNat < q.2.2.2.toNat := by
          intro L At x hdd hx
          unfold made_Dice_Records_j1
          rw [appM_one _ _ _ (by simp; omega) (by decide)]
          simp only [Option.bind]
          rw [w64_id (by omega) (by omega)]
          refine ⟨_, rfl, ⟨hdd, ?_, by simp only; omega, by simp; omega⟩, by simp only; omega⟩
          intro r hr
          simp only [List.mem_append, List.mem_singleton] at hr
          rcases hr with hr | hr
          · exact all r hr
          · rw [hr]; exact hx
        unfold made_Dice_Records_l1
        rw [if_pos (decide_eq_true hi)]
        obtain ⟨x, d', ex, hx, hd'⟩ := drecord_spec dok s (n := 6) (by decide) (by decide)
        rw [ex]
        simp only [Option.bind]
        have hxr := hx.rf hs (by decide)
        by_cases hlen : 0 < (q.2.2.1.length : Int)
        · rw [if_pos (decide_eq_true hlen)]
          obtain ⟨y, d3, ey, y0, y1, hd3⟩ := next_spec hd' (n := 5) (by decide) (by decide)
          rw [ey]
          simp only
          by_cases hy : y = 0
          · rw [if_pos (by simp [hy])]
            obtain ⟨z, d4, ez, z0, z1, hd4⟩ := next_spec (d := ⟨d3.L, d3.At⟩) hd3 (n := (q.2.2.1.length : Int)) (by omega) (by omega)
            rw [ez]
            simp only
            rw [ix_at _ _ z0 z1]
            simp only
            have hxx := all _ (List.getElem_mem (show z.toNat < q.2.2.1.length by omega))
            obtain ⟨v, d5, ev, hv, hd5⟩ := pick_spec hd4 (l := [(q.2.2.1[z.toNat]'(by omega)).Seq, 9]) (by simp) (by simp)
            rw [ev]
            simp only
            have hvr : 0 ≤ v ∧ v ≤ 1073741824 := by
              simp only [List.mem_cons, List.not_mem_nil, or_false] at hv
              have a1 := hxx.q0
              have a2 := hxx.q1
              rcases hv with rfl | rfl <;> omega
            exact fin d5.L d5.At ⟨(q.2.2.1[z.toNat]'(by omega)).Source, (q.2.2.1[z.toNat]'(by omega)).Start, (q.2.2.1[z.toNat]'(by omega)).First, (q.2.2.1[z.toNat]'(by omega)).Rate, (q.2.2.1[z.toNat]'(by omega)).Error, (q.2.2.1[z.toNat]'(by omega)).Run, v, (q.2.2.1[z.toNat]'(by omega)).Samples⟩ hd5
              ⟨hxx.src, hxx.l0, hxx.l1, hxx.f0, hxx.f1, hxx.e0, hxx.e1, hxx.r0, hxx.r1, hvr.1, hvr.2, hxx.rv, hxx.s0, hxx.s1, hxx.te, hxx.smp⟩
          · rw [if_neg (by simp [hy])]
            exact fin d3.L d3.At x hd3 hxr
        · rw [if_neg (by simpa using hlen)]
          simp only [Bool.false_eq_true, if_false]
          exact fin d'.L d'.At x hd' hxr
      · right
        unfold made_Dice_Records_l1
        rw [if_neg (by simpa using hi)]
        exact ⟨_, rfl, dok, all, by simp only; omega⟩)
    (d2.L, d2.At, [], m) ⟨hd2, by simp, m0, by simp; omega⟩
  obtain ⟨e, he, hde, hr, hl⟩ := hw
  rw [he]
  exact ⟨_, _, rfl, hr, hl, hde⟩

open Classical in
theorem law14_RecordOrder_true (t : List Int) (ht : ∀ x ∈ t, -9223372036854775808 ≤ x ∧ x ≤ 9223372036854775807) : law14_RecordOrder t = some true := by
  unfold law14_RecordOrder
  rw [light_spec]
  simp only [Option.bind]
  by_cases hl : t.length ≤ 500
  case neg =>
    rw [decide_eq_false hl, sane_true]
    rfl
  rw [decide_eq_true hl]
  simp only [Bool.not_true, Bool.false_eq_true, if_false, made_Roll]
  obtain ⟨l, d1, el, hall, hlen, hd1⟩ := drecords_spec (DOK.roll hl) (n := 4) (by decide) (by decide)
  rw [el]; simp only
  have hsm : ∀ (i : Nat) (hi : i < l.length), RSm l[i] := fun i hi => (hall _ (List.getElem_mem hi)).sm
  refine whileM_for' (fun i => (i : Int)) l.length _ rfl (fun i hi => ?_) ?_
  · unfold law14_RecordOrder_l22
    simp only
    rw [if_pos (decide_eq_true (by omega))]
    refine whileM_for' (fun k => (k : Int)) l.length _ rfl (fun k hk => ?_) ?_
    · unfold law14_RecordOrder_l37
      simp only
      rw [if_pos (decide_eq_true (by omega)), ix_nat _ _ hi, ix_nat _ _ hk]
      simp only [Option.bind]
      rw [record_Compare_eq (hsm i hi) (hsm k hk), record_Compare_eq (hsm k hk) (hsm i hi), record_Same_eq (hsm i hi), record_Better_eq (hsm i hi) (hsm k hk), record_Better_eq (hsm k hk) (hsm i hi)]
      simp only
      generalize hA : l[i] = A
      generalize hB : l[k] = B
      have hanti := cmpR_cmp.anti A B
      have hba := betR_cmp.anti A B
      have hsame : (cmpR A B == 0) = decide (A = B) := by
        rw [Bool.eq_iff_iff, decide_eq_true_iff, beq_iff_eq]
        exact ⟨cmpR_eq, fun h => by rw [h]; exact cmpR_cmp.refl B⟩
      have hcr : ∀ A B, -1 ≤ cmpR A B ∧ cmpR A B ≤ 1 := by
        have hI : ∀ a b, -1 ≤ cmpI a b ∧ cmpI a b ≤ 1 := fun a b => by unfold cmpI; split <;> (try split) <;> omega
        have hS : ∀ a b, -1 ≤ cmpS a b ∧ cmpS a b ≤ 1 := fun a b => by
          unfold cmpS
          rcases lexU_range a.data.toList b.data.toList with h | h | h <;> omega
        have hT : ∀ {α : Type} (c d : α → α → Int) (a b : α), (-1 ≤ c a b ∧ c a b ≤ 1) → (-1 ≤ d a b ∧ d a b ≤ 1) → -1 ≤ andThen c d a b ∧ andThen c d a b ≤ 1 := fun c d a b h1 h2 => by
          unfold andThen; split
          · exact h1
          · exact h2
        have hL : ∀ (a b : List Int), -1 ≤ lexL cmpI a b ∧ lexL cmpI a b ≤ 1 := by
          intro a
          induction a with
          | nil => intro b; cases b <;> simp [lexL]
          | cons x a ih =>
            intro b
            cases b with
            | nil => simp [lexL]
            | cons y b =>
              simp only [lexL]
              split
              · exact hI x y
              · exact ih b
        intro A B
        unfold cmpR
        refine hT _ _ _ _ ?_ (hT _ _ _ _ (hI _ _) (hT _ _ _ _ (hI _ _) (hT _ _ _ _ (hI _ _) (hT _ _ _ _ (hI _ _) (hT _ _ _ _ (hI _ _) (hT _ _ _ _ (hI _ _) (hT _ _ _ _ (hI _ _) (hT _ _ _ _ (hI _ _) (hT _ _ _ _ (hI _ _) (hL _ _))))))))))
        exact hT _ _ _ _ (hS _ _) (hT _ _ _ _ (hS _ _) (hT _ _ _ _ (hS _ _) (hS _ _)))
      have hr1 := hcr A B
      have hr2 := hcr B A
      have hw : w64 (0 - cmpR B A) = cmpR A B := by rw [w64_id (by omega) (by omega)]; omega
      rw [hw]
      simp only [bne_self_eq_false, Bool.false_eq_true, if_false]
      rw [hsame]
      simp only [beq_self_eq_true, Bool.not_true, Bool.false_eq_true, if_false]
      have hdec : (decide (betR A B < 0) && decide (betR B A < 0) || !decide (betR A B < 0) && !decide (betR B A < 0) && cmpR A B != 0 || decide (A = B) && decide (betR A B < 0)) = false := by
        rw [← hsame]
        by_cases hlt : betR A B < 0
        · have hne : cmpR A B ≠ 0 := fun h => by
            have := cmpR_eq h
            subst this
            have := betR_cmp.refl A
            omega
          have hge : ¬ betR B A < 0 := by omega
          simp [hlt, hge, hne]
        · by_cases hgt : betR B A < 0
          · simp [hlt, hgt]
          · have h0 : betR A B = 0 := by omega
            have := betR_zero h0
            subst this
            have := cmpR_cmp.refl A
            simp [hlt, this]
      have e37 : ((cmpR A B == 0) && decide (betR A B < 0)) = (decide (A = B) && decide (betR A B < 0)) := by rw [hsame]
      rw [hdec]
      simp only [Bool.false_eq_true, if_false]
      -- the third one
      refine whileM_for' (fun j => (j : Int)) l.length _ rfl (fun j hj => ?_) ?_
      · unfold law14_RecordOrder_l41
        simp only
        rw [if_pos (decide_eq_true (by omega)), ix_nat _ _ hi, ix_nat _ _ hk, ix_nat _ _ hj, hA, hB]
        simp only [Option.bind]
        have sA : RSm A := hA ▸ hsm i hi
        have sB : RSm B := hB ▸ hsm k hk
        rw [record_Compare_eq sB (hsm j hj), record_Compare_eq sA (hsm j hj), record_Better_eq sB (hsm j hj), record_Better_eq sA (hsm j hj)]
        generalize l[j] = C
        have t1 := cmpR_cmp.trans A B C
        have t2 := betR_cmp.trans A B C
        simp only
        have w1 : w64 ((j : Int) + 1) = ((j + 1 : Nat) : Int) := by rw [w64_id (by omega) (by omega)]; rfl
        rw [w1]
        by_cases q1 : cmpR A B < 0 <;> by_cases q2 : cmpR B C < 0 <;> by_cases q3 : betR A B < 0 <;> by_cases q4 : betR B C < 0
        all_goals (
          first
          | (have q5 := t1 q1 q2; have q6 := t2 q3 q4; have q5' : ¬ 0 ≤ cmpR A C := (by omega); simp [q1, q2, q3, q4, q5, q5', q6])
          | (have q5 := t1 q1 q2; have q5' : ¬ 0 ≤ cmpR A C := (by omega); simp [q1, q2, q3, q4, q5, q5'])
          | (have q6 := t2 q3 q4; simp [q1, q2, q3, q4, q6])
          | simp [q1, q2, q3, q4])
      · unfold law14_RecordOrder_l41
        simp only
        rw [if_neg (by simp), w64_id (by omega) (by omega)]
        rfl
    · unfold law14_RecordOrder_l37
      simp only
      rw [if_neg (by simp), w64_id (by omega) (by omega)]
      rfl
  · unfold law14_RecordOrder_l22
    simp only
    rw [if_neg (by simp), sane_true]
    rfl

end Go.Proofs.Ytdifjkamipeibaa.Sh

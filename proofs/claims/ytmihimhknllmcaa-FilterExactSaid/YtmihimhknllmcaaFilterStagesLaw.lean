/- The law FilterStages as a plain program: it is true at every input. -/
import Derived.Test.YtmihimhknllmcaaFlt2
namespace Go.Proofs.Ytmihimhknllmcaa.Sh
open Go
set_option linter.unusedVariables false
set_option linter.unusedSimpArgs false

theorem ex_ite {α : Type} {c : Bool} {x y : Option α} (h1 : ∃ z, x = some z) (h2 : ∃ z, y = some z) : ∃ z, (if c = true then x else y) = some z := by
  split
  · exact h1
  · exact h2
theorem ex_bind {α β : Type} {m : Option α} {f : α → Option β} (h : ∃ z, m = some z) (k : ∀ z, ∃ w, f z = some w) : ∃ w, m.bind f = some w := by
  obtain ⟨z, rfl⟩ := h
  exact k z
theorem valid_dec {f : Filter} (l1 : 1 ≤ f.Taps.length) (l2 : f.Taps.length ≤ 128) (s0 : 0 ≤ f.Shift) (s1 : f.Shift ≤ 30) (f0 : 1 ≤ f.Factor) (f1 : f.Factor ≤ 64) (tap : ∀ x ∈ f.Taps, -1073741824 ≤ x ∧ x ≤ 1073741824) :
    filter_Valid f = some (decide (asum f.Taps ≤ 2 ^ f.Shift.toNat)) := by
  have hB := asum_le f.Taps 1073741824 (by decide) tap
  unfold filter_Valid
  have c1 : decide ((1 : Int) ≤ f.Taps.length) = true := decide_eq_true (by omega)
  have c2 : decide ((f.Taps.length : Int) ≤ 128) = true := decide_eq_true (by omega)
  simp only [filter_in, c1, c2, s0, s1, f0, f1, decide_true, Bool.and_true, Bool.not_true, Option.bind, Bool.false_eq_true, if_false]
  refine whileM_for' (fun i => (asum (f.Taps.take i), (i : Int))) f.Taps.length _ (by simp [asum]) (fun i hi => ?_) ?_
  · have hx := tap f.Taps[i] (List.getElem_mem _)
    have hs := asum_take_le f.Taps (i + 1)
    rw [take_one hi, asum_append] at hs
    simp only [asum] at hs
    have hnn := asum_nn (f.Taps.take i)
    simp only [filter_Valid_l2]
    rw [if_pos (decide_eq_true (by omega)), ix_nat _ _ hi]
    simp only [Option.bind, filter_in, hx.1, hx.2, decide_true, Bool.and_true, Bool.not_true, Bool.false_eq_true, if_false]
    rw [take_one hi, asum_append]
    simp only [asum]
    rw [w64_id (x := 0 - f.Taps[i]) (by omega) (by omega), w64_id (by omega) (by omega), w64_id (by omega) (by omega)]
    congr 3 <;> omega
  · simp only [filter_Valid_l2]
    have e1 : shlM .i64 1 f.Shift = some (2 ^ f.Shift.toNat) := by
      have := pow_le30 s1
      have := pow_pos' f.Shift.toNat
      rw [shlM_at _ _ s0 (by omega), Int.one_mul, w64_id (by omega) (by omega)]
    rw [if_neg (by simp), e1]
    simp only [Option.bind, Option.map, List.take_length]

/-- the filter stages that the dice make -/
structure SF (s : Stage) : Prop where
  num : s.Num = ⟨0, 0, 0⟩
  den : s.Den = ⟨0, 0, 0⟩
  l1 : 1 ≤ s.Taps.length
  l2 : s.Taps.length ≤ 10
  tap : ∀ x ∈ s.Taps, 0 ≤ x ∧ x ≤ 4
  pos : ∃ x ∈ s.Taps, 1 ≤ x
  f0 : 1 ≤ s.Factor
  f1 : s.Factor ≤ 5
  s0 : 0 ≤ s.Shift
  s1 : s.Shift ≤ 4

structure StI (s : List Int × Int × List Int × Int) : Prop where
  dok : DOK ⟨s.1, s.2.1⟩
  tap : ∀ x ∈ s.2.2.1, 0 ≤ x ∧ x ≤ 4
  pos : ∃ x ∈ s.2.2.1, 1 ≤ x
  i0 : 0 ≤ s.2.2.2
  i1 : 2 * s.2.2.2 + s.2.2.1.length ≤ 5

theorem dstage_spec {d : Dice} (hd : DOK d) : ∃ s d', made_Dice_Stage d = some (s, d') ∧ (s.Kind = 0 ∨ s.Kind = 1 ∨ s.Kind = 2 ∧ SF s) ∧ DOK d' := by
  unfold made_Dice_Stage
  obtain ⟨k, d1, e1, k0, k1, hd1⟩ := next_spec hd (n := 3) (by decide) (by decide)
  rw [e1]; simp only [Option.bind]
  by_cases c0 : k = 0
  · obtain ⟨a, d2, e2, a0, a1, hd2⟩ := next_spec hd1 (n := 9) (by decide) (by decide)
    obtain ⟨b, d3, e3, b0, b1, hd3⟩ := next_spec hd2 (n := 9) (by decide) (by decide)
    rw [if_pos (by simp [c0]), e2]; simp only
    rw [e3]
    exact ⟨_, _, rfl, .inl rfl, hd3⟩
  · rw [if_neg (by simp [c0])]
    by_cases c1 : k = 1
    · obtain ⟨a2, d2, e2, _, _, hd2⟩ := next_spec hd1 (n := 9) (by decide) (by decide)
      obtain ⟨a3, d3, e3, _, _, hd3⟩ := next_spec hd2 (n := 9) (by decide) (by decide)
      obtain ⟨a4, d4, e4, _, _, hd4⟩ := next_spec hd3 (n := 3) (by decide) (by decide)
      obtain ⟨a5, d5, e5, _, hd5⟩ := pick_spec hd4 (l := [1, 2, (-3), 1048576]) (by decide) (by decide)
      obtain ⟨a6, d6, e6, _, _, hd6⟩ := next_spec hd5 (n := 9) (by decide) (by decide)
      obtain ⟨a7, d7, e7, _, hd7⟩ := pick_spec hd6 (l := [0, 1, 1048576]) (by decide) (by decide)
      rw [if_pos (by simp [c1]), e2]; simp only
      rw [e3]; simp only
      rw [e4]; simp only
      rw [e5]; simp only
      rw [e6]; simp only
      rw [e7]
      exact ⟨_, _, rfl, .inr (.inl rfl), hd7⟩
    · obtain ⟨a2, d2, e2, q0, q1, hd2⟩ := next_spec hd1 (n := 4) (by decide) (by decide)
      obtain ⟨a3, d3, e3, hfa, hd3⟩ := pick_spec hd2 (l := [1, 1, 2, 5]) (by decide) (by decide)
      obtain ⟨a4, d4, e4, s0, s1, hd4⟩ := next_spec hd3 (n := 5) (by decide) (by decide)
      obtain ⟨a5, d5, e5, i0, i1, hd5⟩ := next_spec hd4 (n := 3) (by decide) (by decide)
      rw [if_neg (by simp [c1]), e2]; simp only
      rw [e3]; simp only
      rw [e4]; simp only
      rw [e5]; simp only
      rw [w64_id (x := 1 + a2) (by omega) (by omega)]
      have hfa' : a3 = 1 ∨ a3 = 2 ∨ a3 = 5 := by simp at hfa; omega
      have hw := whileM_inv (body := made_Dice_Stage_l1) StI (fun s => s.2.2.2.toNat)
        (fun e => DOK ⟨e.1, e.2.1⟩ ∧ (∀ x ∈ e.2.2, 0 ≤ x ∧ x ≤ 4) ∧ (∃ x ∈ e.2.2, 1 ≤ x) ∧ e.2.2.length ≤ 5) (by
          intro q hq
          obtain ⟨dok, tap, ⟨z, hz, hz1⟩, i0, i1⟩ := hq
          by_cases hi : 0 < q.2.2.2
          · left
            obtain ⟨x, d', ex, x0, x1, hd'⟩ := next_spec dok (n := 4) (by decide) (by decide)
            unfold made_Dice_Stage_l1
            rw [if_pos (decide_eq_true hi), ex]
            simp only [Option.bind]
            rw [appM_one _ _ _ (by simp; omega) (by decide)]
            simp only
            rw [appM_one _ _ _ (by simp; omega) (by decide), w64_id (by omega) (by omega)]
            refine ⟨_, rfl, ⟨hd', ?_, ⟨z, by simp [hz], hz1⟩, by simp only; omega, by simp; omega⟩, by simp only; omega⟩
            intro y hy
            simp only [List.mem_append, List.mem_singleton] at hy
            rcases hy with (rfl | hy) | rfl
            · omega
            · exact tap y hy
            · omega
          · right
            unfold made_Dice_Stage_l1
            rw [if_neg (by simpa using hi)]
            exact ⟨_, rfl, dok, tap, ⟨z, hz, hz1⟩, by simp only; omega⟩)
        (d5.L, d5.At, [1 + a2], a5) ⟨hd5, by simp; omega, ⟨1 + a2, by simp, by omega⟩, i0, by simp; omega⟩
      obtain ⟨e, he, hde, tap, ⟨z, hz, hz1⟩, hl⟩ := hw
      rw [he]; simp only
      obtain ⟨a6, d6, e6, _, _, hd6⟩ := next_spec hde (n := 6) (by decide) (by decide)
      rw [e6]; simp only
      have hlp : 1 ≤ e.2.2.length := List.length_pos_iff.2 (fun h => by rw [h] at hz; cases hz)
      by_cases c6 : a6 = 0
      · rw [if_pos (by simp [c6]), appM_one _ _ _ (by simp; omega) (by decide)]
        refine ⟨_, _, rfl, .inr (.inr ⟨rfl, rfl, rfl, by simp, by simp; omega, ?_, ⟨z, by simp [hz], hz1⟩, by simp only; omega, by simp only; omega, s0, by simp only; omega⟩), hd6⟩
        intro y hy
        simp only [List.mem_append, List.mem_singleton] at hy
        rcases hy with hy | rfl
        · exact tap y hy
        · omega
      · rw [if_neg (by simp [c6])]
        exact ⟨_, _, rfl, .inr (.inr ⟨rfl, rfl, rfl, hlp, by simp only; omega, tap, ⟨z, hz, hz1⟩, by simp only; omega, by simp only; omega, s0, by simp only; omega⟩), hd6⟩

theorem terms_spec (l : List Int) (h : l.length ≤ 1000000) : response_terms l = some (!(l.any fun x => !((decide (-1048576 ≤ x)) && (decide (x ≤ 1048576))))) := by
  unfold response_terms
  rw [contains_spec (fun x => !((decide (-1048576 ≤ x)) && (decide (x ≤ 1048576)))) response_terms_fn1 (fun x => rfl) l (by omega)]
  rfl
def isum : List Int → Int
  | [] => 0
  | x :: l => x + isum l
theorem isum_append (a b : List Int) : isum (a ++ b) = isum a + isum b := by
  induction a with
  | nil => simp [isum]
  | cons x a ih => simp only [List.cons_append, isum, ih]; omega
theorem isum_nn {l : List Int} (h : ∀ x ∈ l, 0 ≤ x) : 0 ≤ isum l := by
  induction l with
  | nil => simp [isum]
  | cons x l ih =>
    have := h x (by simp)
    have := ih (fun y hy => h y (by simp [hy]))
    simp only [isum]; omega
theorem isum_ge {l : List Int} (h : ∀ x ∈ l, 0 ≤ x) {z : Int} (hz : z ∈ l) : z ≤ isum l := by
  induction l with
  | nil => cases hz
  | cons x l ih =>
    have h1 := h x (by simp)
    have h2 := isum_nn (fun y hy => h y (by simp [hy]) : ∀ x ∈ l, 0 ≤ x)
    simp only [isum]
    rcases List.mem_cons.1 hz with rfl | hz
    · omega
    · have := ih (fun y hy => h y (by simp [hy])) hz; omega
theorem isum_le {l : List Int} (h : ∀ x ∈ l, 0 ≤ x ∧ x ≤ 4) : isum l ≤ 4 * l.length := by
  induction l with
  | nil => simp [isum]
  | cons x l ih =>
    have := h x (by simp)
    have := ih (fun y hy => h y (by simp [hy]))
    simp only [isum, List.length_cons]; omega
theorem rsum_spec {l : List Int} (hl : l.length ≤ 10) (h : ∀ x ∈ l, 0 ≤ x ∧ x ≤ 4) : response_sum l = some (isum l) := by
  unfold response_sum
  have hw : whileM (response_sum_l1 l) (0, 0) = some (isum l) := by
    refine whileM_for' (fun i => (isum (l.take i), (i : Int))) l.length _ (by simp [isum]) (fun i hi => ?_) ?_
    · have hx := h l[i] (List.getElem_mem _)
      have h1 := isum_le (fun x hx => h x (List.mem_of_mem_take hx) : ∀ x ∈ l.take i, 0 ≤ x ∧ x ≤ 4)
      have h2 := isum_nn (fun x hx => (h x (List.mem_of_mem_take hx)).1 : ∀ x ∈ l.take i, 0 ≤ x)
      rw [List.length_take] at h1
      unfold response_sum_l1
      simp only
      rw [if_pos (decide_eq_true (by omega)), ix_nat _ _ hi]
      simp only [Option.bind]
      rw [take_one hi, isum_append]
      simp only [isum]
      rw [w64_id (by omega) (by omega), w64_id (by omega) (by omega)]
      congr 3 <;> omega
    · unfold response_sum_l1
      simp only
      rw [if_neg (by simp)]
      simp
  rw [hw]; rfl

theorem stage_valid {s : Stage} (hk : s.Kind = 2) (h : SF s) : response_ValidStage s = some true := by
  have l1 := h.l1
  have l2 := h.l2
  have any : (s.Taps.any fun x => !((decide (-1048576 ≤ x)) && (decide (x ≤ 1048576)))) = false := by
    rw [List.any_eq_false]
    intro x hx
    have := h.tap x hx
    simp; omega
  obtain ⟨z, hz, hz1⟩ := h.pos
  have hge := isum_ge (fun x hx => (h.tap x hx).1) hz
  have hne : (isum s.Taps != 0) = true := by simp; omega
  have r1 : response_in (s.Taps.length : Int) 1 128 = some true := by
    simp only [response_in, decide_eq_true (show (1 : Int) ≤ s.Taps.length by omega), decide_eq_true (show (s.Taps.length : Int) ≤ 128 by omega), Bool.and_self]
  have r2 : response_in s.Factor 1 64 = some true := by
    have := h.f0
    have := h.f1
    simp only [response_in, decide_eq_true (show (1 : Int) ≤ s.Factor by omega), decide_eq_true (show s.Factor ≤ 64 by omega), Bool.and_self]
  have r3 : response_in s.Shift 0 40 = some true := by
    have := h.s0
    have := h.s1
    simp only [response_in, decide_eq_true (show (0 : Int) ≤ s.Shift by omega), decide_eq_true (show s.Shift ≤ 40 by omega), Bool.and_self]
  have t1 : response_terms s.Taps = some true := by rw [terms_spec _ (by omega), any]; rfl
  have t2 := rsum_spec h.l2 h.tap
  unfold response_ValidStage
  rw [hk, h.num, h.den, if_neg (by decide), if_neg (by decide), if_pos (by decide)]
  simp [r1, r2, r3, t1, t2, hne]

theorem asum_isum {l : List Int} (h : ∀ x ∈ l, 0 ≤ x) : asum l = isum l := by
  induction l with
  | nil => rfl
  | cons x l ih =>
    have := h x (by simp)
    simp only [asum, isum, ih (fun y hy => h y (by simp [hy]))]; omega

theorem clone_spec (s : List Int) (h : s.length ≤ 1000000) : slices_Clone_Lint_int s = some s := by
  unfold slices_Clone_Lint_int
  rw [appM_one _ _ _ (by simpa using h) (by decide)]
  rfl

theorem copying {xs : List Int} (hx : SOK xs) : filter_Apply ⟨[128], 1, 7⟩ xs 5 = some (xs, 0) := by
  have v : VF ⟨[128], 1, 7⟩ := ⟨by decide, by decide, by decide, by decide, by decide, by decide, by decide, by decide⟩
  rw [apply_ok v hx (by decide) (by decide)]
  simp only [Option.some.injEq, Prod.mk.injEq, and_true]
  rw [outs_one rfl]
  apply List.ext_getElem
  · simp
  · intro i h1 h2
    simp only [List.length_cons, List.length_nil, Nat.zero_add, Nat.sub_self, List.getElem_map, List.getElem_range, dot]
    have : xs.getD (i - 0) 0 = xs[i] := by simp [List.getD_eq_getElem?_getD, h2]
    rw [this]
    simp only [List.getD_cons_zero, Int.zero_add]
    have e : (2 : Int) ^ (7 : Int).toNat = 128 := by decide
    rw [e, Int.fdiv_eq_ediv_of_nonneg _ (by decide), Int.mul_ediv_cancel_left _ (by decide)]

theorem law21_FilterStages_true (t : List Int) (ht : ∀ x ∈ t, -9223372036854775808 ≤ x ∧ x ≤ 9223372036854775807) : law21_FilterStages t = some true := by
  unfold law21_FilterStages
  rw [light_spec]
  simp only [Option.bind]
  by_cases hl : t.length ≤ 500
  case neg =>
    rw [decide_eq_false hl, sane_true]
    rfl
  rw [decide_eq_true hl]
  simp only [Bool.not_true, Bool.false_eq_true, if_false, made_Roll]
  obtain ⟨s, d1, es, hs, hd1⟩ := dstage_spec (DOK.roll hl)
  obtain ⟨xs, d2, ex, rx, xl1, xl2, hd2⟩ := samples_spec hd1 (n := 20) (by decide) (by decide)
  rw [es]; simp only
  rw [ex]; simp only
  have none : s.Kind ≠ 2 → filter_Stage s = some (⟨[], 0, 0⟩, 1) := by
    intro hk
    have : ∃ b, response_ValidStage s = some b := by
      unfold response_ValidStage
      rw [terms_spec _ (by simp), terms_spec _ (by simp)]
      refine ex_ite (ex_bind (ex_ite (ex_bind ⟨_, rfl⟩ fun _ => ⟨_, rfl⟩) ⟨_, rfl⟩) fun _ => ex_bind (ex_ite (ex_bind ⟨_, rfl⟩ fun _ => ⟨_, rfl⟩) ⟨_, rfl⟩) fun _ => ⟨_, rfl⟩) ?_
      refine ex_ite (ex_bind (ex_ite (ex_bind ⟨_, rfl⟩ fun _ => ⟨_, rfl⟩) ⟨_, rfl⟩) fun _ => ex_bind (ex_ite (ex_bind ⟨_, rfl⟩ fun _ => ⟨_, rfl⟩) ⟨_, rfl⟩) fun _ => ⟨_, rfl⟩) ?_
      rw [if_neg (by simp [hk])]
      exact ⟨_, rfl⟩
    obtain ⟨b, hb⟩ := this
    unfold filter_Stage
    rw [hb]
    simp only [Option.bind]
    rw [if_pos (by simp [hk])]
  by_cases hk : s.Kind = 2
  case neg =>
    rw [none hk]
    simp only
    rw [if_pos (by simpa using hk)]
    simp only [beq_self_eq_true, if_true]
    have : ref21_Same (⟨[], 0, 0⟩ : Filter) ⟨[], 0, 0⟩ = some true := by
      unfold ref21_Same
      rw [same_spec _ _ (by decide)]
      rfl
    rw [this, sane_true]
    rfl
  have hf : SF s := by
    rcases hs with h | h | h
    · omega
    · omega
    · exact h.2
  have l1 := hf.l1
  have l2 := hf.l2
  have nn : ∀ x ∈ s.Taps, 0 ≤ x := fun x hx => (hf.tap x hx).1
  have ha := asum_isum nn
  have hi0 := isum_nn nn
  have hi1 := isum_le hf.tap
  have hp := pow_le30 (s := s.Shift) (by have := hf.s1; omega)
  have hp1 := pow_pos' s.Shift.toNat
  have hst : filter_Stage s = some (if isum s.Taps ≤ 2 ^ s.Shift.toNat then (⟨s.Taps, s.Factor, s.Shift⟩, 0) else (⟨[], 0, 0⟩, 8)) := by
    unfold filter_Stage
    rw [stage_valid hk hf]
    simp only [Option.bind, Bool.not_true, Bool.false_or]
    rw [if_neg (by simp [hk]), clone_spec _ (by omega)]
    simp only
    rw [valid_dec (f := ⟨s.Taps, s.Factor, s.Shift⟩) l1 (by simp only; omega) hf.s0 (by have := hf.s1; simp only; omega) hf.f0 (by have := hf.f1; simp only; omega) (fun x hx => by have := hf.tap x hx; omega)]
    simp only [ha]
    by_cases hfit : isum s.Taps ≤ 2 ^ s.Shift.toNat
    · rw [if_pos hfit, decide_eq_true hfit]; rfl
    · rw [if_neg hfit, decide_eq_false hfit]; rfl
  rw [hst]
  simp only
  rw [if_neg (by simp [hk])]
  have hw : whileM (law21_FilterStages_l1 (s, d1)) (0, 0) = some (isum s.Taps) := by
    refine whileM_for' (fun i => (isum (s.Taps.take i), (i : Int))) s.Taps.length _ (by simp [isum]) (fun i hi => ?_) ?_
    · have hx := hf.tap s.Taps[i] (List.getElem_mem _)
      have h1 := isum_le (fun x hx => hf.tap x (List.mem_of_mem_take hx) : ∀ x ∈ s.Taps.take i, 0 ≤ x ∧ x ≤ 4)
      have h2 := isum_nn (fun x hx => nn x (List.mem_of_mem_take hx) : ∀ x ∈ s.Taps.take i, 0 ≤ x)
      rw [List.length_take] at h1
      unfold law21_FilterStages_l1
      simp only
      rw [if_pos (decide_eq_true (by omega)), ix_nat _ _ hi]
      simp only [Option.bind]
      rw [take_one hi, isum_append]
      simp only [isum]
      rw [w64_id (x := 0 - s.Taps[i]) (by omega) (by omega), w64_id (by omega) (by omega), w64_id (by omega) (by omega)]
      congr 3 <;> omega
    · unfold law21_FilterStages_l1
      simp only
      rw [if_neg (by simp)]
      simp
  rw [hw]
  simp only
  rw [u64_id hf.s0 (by have := hf.s1; omega), shlM_at _ _ hf.s0 (by have := hf.s1; omega), Int.one_mul, w64_id (by omega) (by omega)]
  simp only
  rw [copying ⟨rx, by omega⟩]
  simp only
  rw [same_spec xs xs (by omega), decide_eq_true rfl, sane_true]
  by_cases hfit : isum s.Taps ≤ 2 ^ s.Shift.toNat
  · rw [if_pos hfit, decide_eq_true hfit]
    simp only [beq_self_eq_true, Bool.not_true, Bool.and_false, Bool.false_and, Bool.or_self, Bool.false_eq_true, if_false, bne_self_eq_false]
    rw [same_spec _ _ (by omega), decide_eq_true rfl]
    simp
  · rw [if_neg hfit, decide_eq_false hfit]
    simp

end Go.Proofs.Ytmihimhknllmcaa.Sh

/- The responses and rates that the dice make (chapter 18). -/
import Derived.Test.YtoendkojgjobbaaDice
import Derived.Test.YtoendkojgjobbaaJoin
namespace Go.Proofs.Ytoendkojgjobbaa.Sh
open Go
set_option linter.unusedVariables false
set_option linter.unusedSimpArgs false

/-- the filter stages that the dice make -/
structure SF (s : Stage) : Prop where
  num : s.Num = ⟨0, 0, 0⟩
  den : s.Den = ⟨0, 0, 0⟩
  l1 : 1 ≤ s.Taps.length
  l2 : s.Taps.length ≤ 10
  tap : ∀ x ∈ s.Taps, 0 ≤ x ∧ x ≤ 4
  pos : ∃ x ∈ s.Taps, 1 ≤ x
  f0 : 1 ≤ s.Factor
  f1 : s.Factor ≤ 5
  s0 : 0 ≤ s.Shift
  s1 : s.Shift ≤ 4

structure StI (s : List Int × Int × List Int × Int) : Prop where
  dok : DOK ⟨s.1, s.2.1⟩
  tap : ∀ x ∈ s.2.2.1, 0 ≤ x ∧ x ≤ 4
  pos : ∃ x ∈ s.2.2.1, 1 ≤ x
  i0 : 0 ≤ s.2.2.2
  i1 : 2 * s.2.2.2 + s.2.2.1.length ≤ 5

theorem dstage_spec {d : Dice} (hd : DOK d) : ∃ s d', made_Dice_Stage d = some (s, d') ∧ (SG0 s ∨ SG1 s ∨ s.Kind = 2 ∧ SF s) ∧ DOK d' := by
  unfold made_Dice_Stage
  obtain ⟨k, d1, e1, k0, k1, hd1⟩ := next_spec hd (n := 3) (by decide) (by decide)
  rw [e1]; simp only [Option.bind]
  by_cases c0 : k = 0
  · obtain ⟨a, d2, e2, a0, a1, hd2⟩ := next_spec hd1 (n := 9) (by decide) (by decide)
    obtain ⟨b, d3, e3, b0, b1, hd3⟩ := next_spec hd2 (n := 9) (by decide) (by decide)
    rw [if_pos (by simp [c0]), e2]; simp only
    rw [e3]; simp only
    rw [w64_id (x := 1 + a) (by omega) (by omega), w64_id (x := 1 + b) (by omega) (by omega)]
    exact ⟨_, _, rfl, .inl ⟨rfl, rfl, rfl, rfl, by simp only; omega, by simp only; omega, by simp only; omega, by simp only; omega, rfl, rfl, rfl, rfl⟩, hd3⟩
  · rw [if_neg (by simp [c0])]
    by_cases c1 : k = 1
    · obtain ⟨a2, d2, e2, p0, p1, hd2⟩ := next_spec hd1 (n := 9) (by decide) (by decide)
      obtain ⟨a3, d3, e3, p2, p3, hd3⟩ := next_spec hd2 (n := 9) (by decide) (by decide)
      obtain ⟨a4, d4, e4, p4, p5, hd4⟩ := next_spec hd3 (n := 3) (by decide) (by decide)
      obtain ⟨a5, d5, e5, p6, hd5⟩ := pick_spec hd4 (l := [1, 2, (-3), 1048576]) (by decide) (by decide)
      obtain ⟨a6, d6, e6, p7, p8, hd6⟩ := next_spec hd5 (n := 9) (by decide) (by decide)
      obtain ⟨a7, d7, e7, p9, hd7⟩ := pick_spec hd6 (l := [0, 1, 1048576]) (by decide) (by decide)
      have q5 : a5 = 1 ∨ a5 = 2 ∨ a5 = -3 ∨ a5 = 1048576 := by simpa using p6
      have q7 : a7 = 0 ∨ a7 = 1 ∨ a7 = 1048576 := by simpa using p9
      rw [if_pos (by simp [c1]), e2]; simp only
      rw [e3]; simp only
      rw [e4]; simp only
      rw [e5]; simp only
      rw [e6]; simp only
      rw [e7]; simp only
      rw [w64_id (x := a2 - 4) (by omega) (by omega), w64_id (x := a3 - 4) (by omega) (by omega), w64_id (x := a6 - 4) (by omega) (by omega)]
      exact ⟨_, _, rfl, .inr (.inl ⟨rfl, rfl, rfl, rfl, by simp only; omega, by simp only; omega, by simp only; omega, by simp only; omega, by simp only; omega, by simp only; omega, by simp only; omega⟩), hd7⟩
    · obtain ⟨a2, d2, e2, q0, q1, hd2⟩ := next_spec hd1 (n := 4) (by decide) (by decide)
      obtain ⟨a3, d3, e3, hfa, hd3⟩ := pick_spec hd2 (l := [1, 1, 2, 5]) (by decide) (by decide)
      obtain ⟨a4, d4, e4, s0, s1, hd4⟩ := next_spec hd3 (n := 5) (by decide) (by decide)
      obtain ⟨a5, d5, e5, i0, i1, hd5⟩ := next_spec hd4 (n := 3) (by decide) (by decide)
      rw [if_neg (by simp [c1]), e2]; simp only
      rw [e3]; simp only
      rw [e4]; simp only
      rw [e5]; simp only
      rw [w64_id (x := 1 + a2) (by omega) (by omega)]
      have hfa' : a3 = 1 ∨ a3 = 2 ∨ a3 = 5 := by simp at hfa; omega
      have hw := whileM_inv (body := made_Dice_Stage_l1) StI (fun s => s.2.2.2.toNat)
        (fun e => DOK ⟨e.1, e.2.1⟩ ∧ (∀ x ∈ e.2.2, 0 ≤ x ∧ x ≤ 4) ∧ (∃ x ∈ e.2.2, 1 ≤ x) ∧ e.2.2.length ≤ 5) (by
          intro q hq
          obtain ⟨dok, tap, ⟨z, hz, hz1⟩, i0, i1⟩ := hq
          by_cases hi : 0 < q.2.2.2
          · left
            obtain ⟨x, d', ex, x0, x1, hd'⟩ := next_spec dok (n := 4) (by decide) (by decide)
            unfold made_Dice_Stage_l1
            rw [if_pos (decide_eq_true hi), ex]
            simp only [Option.bind]
            rw [appM_one _ _ _ (by simp; omega) (by decide)]
            simp only
            rw [appM_one _ _ _ (by simp; omega) (by decide), w64_id (by omega) (by omega)]
            refine ⟨_, rfl, ⟨hd', ?_, ⟨z, by simp [hz], hz1⟩, by simp only; omega, by simp; omega⟩, by simp only; omega⟩
            intro y hy
            simp only [List.mem_append, List.mem_singleton] at hy
            rcases hy with (rfl | hy) | rfl
            · omega
            · exact tap y hy
            · omega
          · right
            unfold made_Dice_Stage_l1
            rw [if_neg (by simpa using hi)]
            exact ⟨_, rfl, dok, tap, ⟨z, hz, hz1⟩, by simp only; omega⟩)
        (d5.L, d5.At, [1 + a2], a5) ⟨hd5, by simp; omega, ⟨1 + a2, by simp, by omega⟩, i0, by simp; omega⟩
      obtain ⟨e, he, hde, tap, ⟨z, hz, hz1⟩, hl⟩ := hw
      rw [he]; simp only
      obtain ⟨a6, d6, e6, _, _, hd6⟩ := next_spec hde (n := 6) (by decide) (by decide)
      rw [e6]; simp only
      have hlp : 1 ≤ e.2.2.length := List.length_pos_iff.2 (fun h => by rw [h] at hz; cases hz)
      by_cases c6 : a6 = 0
      · rw [if_pos (by simp [c6]), appM_one _ _ _ (by simp; omega) (by decide)]
        refine ⟨_, _, rfl, .inr (.inr ⟨rfl, rfl, rfl, by simp, by simp; omega, ?_, ⟨z, by simp [hz], hz1⟩, by simp only; omega, by simp only; omega, s0, by simp only; omega⟩), hd6⟩
        intro y hy
        simp only [List.mem_append, List.mem_singleton] at hy
        rcases hy with hy | rfl
        · exact tap y hy
        · omega
      · rw [if_neg (by simp [c6])]
        exact ⟨_, _, rfl, .inr (.inr ⟨rfl, rfl, rfl, hlp, by simp only; omega, tap, ⟨z, hz, hz1⟩, by simp only; omega, by simp only; omega, s0, by simp only; omega⟩), hd6⟩


theorem isum_pos {l : List Int} (h : ∀ x ∈ l, 0 ≤ x) (hp : ∃ x ∈ l, 1 ≤ x) : 1 ≤ isum l := by
  induction l with
  | nil => obtain ⟨x, hx, _⟩ := hp; cases hx
  | cons y l ih =>
    have hy := h y (by simp)
    have hn : ∀ l : List Int, (∀ x ∈ l, 0 ≤ x) → 0 ≤ isum l := fun l h => by
      induction l with
      | nil => exact Int.le_refl _
      | cons z l ih =>
        have := h z (by simp)
        have := ih (fun x hx => h x (by simp [hx]))
        simp only [isum]; omega
    have h0 := hn l (fun x hx => h x (by simp [hx]))
    obtain ⟨x, hx, h1⟩ := hp
    simp only [isum]
    rcases List.mem_cons.1 hx with rfl | hx
    · omega
    · have := ih (fun x hx => h x (by simp [hx])) ⟨x, hx, h1⟩
      omega
theorem SF.sg {s : Stage} (hk : s.Kind = 2) (h : SF s) : SG2 s :=
  ⟨hk, h.num, h.den, h.l1, by have := h.l2; omega, fun x hx => by have := h.tap x hx; omega, by have := isum_pos (fun x hx => (h.tap x hx).1) h.pos; omega, h.f0, by have := h.f1; omega, h.s0, by have := h.s1; omega⟩
theorem dstg {d : Dice} (hd : DOK d) : ∃ s d', made_Dice_Stage d = some (s, d') ∧ SG s ∧ DOK d' := by
  obtain ⟨s, d', e, h, hd'⟩ := dstage_spec hd
  refine ⟨s, d', e, ?_, hd'⟩
  rcases h with h | h | h
  · exact .inl h
  · exact .inr (.inl h)
  · exact .inr (.inr (SF.sg h.1 h.2))

/-- a response that is valid -/
structure RW (r : Response) : Prop where
  sg : ∀ s ∈ r.Stages, SG s
  l8 : r.Stages.length ≤ 8
  f6 : fac r.Stages ≤ 64
theorem dresp {d : Dice} (hd : DOK d) : ∃ r d', made_Dice_Response d = some (r, d') ∧ RW r ∧ DOK d' := by
  unfold made_Dice_Response
  obtain ⟨m, d1, e1, m0, m1, hd1⟩ := next_spec hd (n := 4) (by decide) (by decide)
  rw [e1]; simp only [Option.bind]
  obtain ⟨e, he, h1, h2, h3, h4⟩ := loop_ex (b1 := made_Dice_Response_l1)
    (fun k s => DOK ⟨s.1, s.2.1⟩ ∧ (∀ x ∈ s.2.2.1, SG x) ∧ s.2.2.2.1 = fac s.2.2.1 ∧ fac s.2.2.1 ≤ 64 ∧ 0 ≤ s.2.2.2.2 ∧ s.2.2.2.2 + s.2.2.1.length ≤ 3 ∧ k = s.2.2.2.2.toNat)
    (fun e => DOK ⟨e.1, e.2.1⟩ ∧ (∀ x ∈ e.2.2, SG x) ∧ e.2.2.length ≤ 3 ∧ fac e.2.2 ≤ 64)
    (fun k s ⟨hdk, hs, hn, hf, i0, i1, hk⟩ => by
      obtain ⟨L, At, l, n, i⟩ := s
      simp only at hdk hs hn hf i0 i1 hk
      subst hn
      by_cases hi : 0 < i
      · obtain ⟨x, d', ex, hx, hd'⟩ := dstg hdk
        have hb := fac1_bd hx
        have hp := fac_pos hs
        have hm : fac l * fac1 x ≤ 64 * 64 := Int.mul_le_mul hf hb.2 (by omega) (by decide)
        have hm0 : 1 * 1 ≤ fac l * fac1 x := Int.mul_le_mul hp hb.1 (by decide) (by omega)
        have hfl : fac (l ++ [x]) = fac l * fac1 x := by rw [fac_append]; simp [fac]
        have hall : ∀ y ∈ l ++ [x], SG y := fun y hy => by
          rcases List.mem_append.1 hy with h | h
          · exact hs y h
          · rcases List.mem_singleton.1 h with rfl; exact hx
        have j1 : ∀ n, n = fac (l ++ [x]) → made_Dice_Response_j1 (L, At, l, fac l, i) (x, d') n = some (.inl (d'.L, d'.At, l ++ [x], fac (l ++ [x]), i - 1)) := by
          intro n hn
          unfold made_Dice_Response_j1
          rw [appM_one _ _ _ (by simp; omega) (by decide)]
          simp only [Option.bind]
          rw [w64_id (by omega) (by omega), hn]
        by_cases hk2 : x.Kind = 2
        · have hf1 : fac1 x = x.Factor := by unfold fac1; rw [if_pos hk2]
          by_cases h6 : fac l * fac1 x ≤ 64
          · left
            refine ⟨(d'.L, d'.At, l ++ [x], fac (l ++ [x]), i - 1), (i - 1).toNat, ?_, ⟨hd', hall, rfl, by simp only; omega, by simp only; omega, by simp; omega, rfl⟩, by omega⟩
            unfold made_Dice_Response_l1
            simp only
            rw [if_pos (decide_eq_true hi), ex]
            simp only [Option.bind]
            rw [if_pos (by simp [hk2])]
            rw [hf1] at h6 hm hm0 hfl
            rw [w64_id (by omega) (by omega), if_neg (by simp; omega)]
            exact j1 _ hfl.symm
          · right
            refine ⟨(d'.L, d'.At, l), ?_, hd', hs, by simp only; omega, hf⟩
            unfold made_Dice_Response_l1
            simp only
            rw [if_pos (decide_eq_true hi), ex]
            simp only [Option.bind]
            rw [if_pos (by simp [hk2])]
            rw [hf1] at h6 hm hm0
            rw [w64_id (by omega) (by omega), if_pos (decide_eq_true (by omega))]
        · have hf1 : fac1 x = 1 := by unfold fac1; rw [if_neg hk2]
          rw [hf1, Int.mul_one] at hfl
          left
          refine ⟨(d'.L, d'.At, l ++ [x], fac (l ++ [x]), i - 1), (i - 1).toNat, ?_, ⟨hd', hall, rfl, by simp only; omega, by simp only; omega, by simp; omega, rfl⟩, by omega⟩
          unfold made_Dice_Response_l1
          simp only
          rw [if_pos (decide_eq_true hi), ex]
          simp only [Option.bind]
          rw [if_neg (by simpa using hk2)]
          exact j1 _ hfl.symm
      · right
        refine ⟨(L, At, l), ?_, hdk, hs, by simp only; omega, hf⟩
        unfold made_Dice_Response_l1
        simp only
        rw [if_neg (by simpa using hi)]) m.toNat (d1.L, d1.At, [], 1, m) ⟨hd1, by simp, rfl, by simp [fac], m0, by simp; omega, rfl⟩
  rw [he]
  exact ⟨_, _, rfl, ⟨h2, by simp only; omega, h4⟩, h1⟩

end Go.Proofs.Ytoendkojgjobbaa.Sh

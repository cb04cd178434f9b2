/- The filters that the dice make are well. -/
import Derived.Test.YtmihimhknllmcaaFlt
namespace Go.Proofs.Ytmihimhknllmcaa.Sh
open Go
set_option linter.unusedVariables false
set_option linter.unusedSimpArgs false

structure FF (f : Filter) : Prop extends VF f where
  l5 : f.Taps.length ≤ 5
  s6 : f.Shift ≤ 6
  f3 : f.Factor ≤ 3

structure FI (d : Dice) (l : List Int) (left i B : Int) : Prop where
  dok : DOK d
  l0 : 0 ≤ left
  l1 : asum l + left = B
  i0 : 0 ≤ i
  i5 : i + l.length ≤ 5
  ne : i = 0 → 1 ≤ l.length

theorem dfilter_spec {d : Dice} (hd : DOK d) : ∃ f d', made_Dice_Filter d = some (f, d') ∧ FF f ∧ DOK d' := by
  unfold made_Dice_Filter
  obtain ⟨fa, d1, e1, hfa, hd1⟩ := pick_spec hd (l := [1, 1, 2, 3]) (by decide) (by decide)
  obtain ⟨sh, d2, e2, hsh, hd2⟩ := pick_spec hd1 (l := [0, 2, 4, 6]) (by decide) (by decide)
  obtain ⟨n, d3, e3, hn0, hn1, hd3⟩ := next_spec hd2 (n := 5) (by decide) (by decide)
  rw [e1]; simp only [Option.bind]
  rw [e2]; simp only [Option.bind]
  have hs : 0 ≤ sh ∧ sh ≤ 6 := by simp at hsh; omega
  have hf : 1 ≤ fa ∧ fa ≤ 3 := by simp at hfa; omega
  have hp := pow_le30 (s := sh) (by omega)
  have hp1 := pow_pos' sh.toNat
  rw [u64_id (by omega) (by omega), shlM_at _ _ hs.1 (by omega), Int.one_mul, w64_id (by omega) (by omega)]
  simp only
  rw [e3]; simp only
  rw [w64_id (x := 1 + n) (by omega) (by omega)]
  have hw := whileM_inv (body := made_Dice_Filter_l1) (fun s => FI ⟨s.1, s.2.1⟩ s.2.2.1 s.2.2.2.1 s.2.2.2.2 (2 ^ sh.toNat)) (fun s => s.2.2.2.2.toNat)
    (fun e => DOK ⟨e.1, e.2.1⟩ ∧ 1 ≤ e.2.2.length ∧ e.2.2.length ≤ 5 ∧ asum e.2.2 ≤ 2 ^ sh.toNat) (by
      rintro ⟨L, At, l, left, i⟩ ⟨dok, l0, l1, i0, i5, ne⟩
      simp only at *
      have hnn := asum_nn l
      by_cases hi : 0 < i
      · left
        obtain ⟨x, d', e, x0, x1, hd'⟩ := next_spec dok (n := 2 * left + 1) (by omega) (by omega)
        unfold made_Dice_Filter_l1
        simp only
        rw [if_pos (decide_eq_true hi), w64_id (x := 2 * left) (by omega) (by omega), w64_id (by omega) (by omega), e]
        simp only [Option.bind]
        rw [w64_id (x := x - left) (by omega) (by omega), w64_id (x := 0 - (x - left)) (by omega) (by omega)]
        rw [w64_id (x := left - max (x - left) (0 - (x - left))) (by omega) (by omega), w64_id (x := i - 1) (by omega) (by omega)]
        rw [appM_one _ _ _ (by simp; omega) (by decide)]
        refine ⟨_, rfl, ⟨hd', by simp only; omega, ?_, by simp only; omega, by simp; omega, fun _ => by simp⟩, by simp only; omega⟩
        rw [asum_append]
        simp only [asum]
        omega
      · right
        unfold made_Dice_Filter_l1
        simp only
        rw [if_neg (by simpa using hi)]
        exact ⟨_, rfl, dok, ne (by omega), by simp only; omega, by simp only; omega⟩)
    (d3.L, d3.At, [], 2 ^ sh.toNat, 1 + n) ⟨hd3, by simp only; omega, by simp [asum], by simp only; omega, by simp; omega, fun h => by simp only at h; omega⟩
  obtain ⟨e, he, hde, h1, h5, hsum⟩ := hw
  rw [he]
  have h20 : (2 : Int) ^ sh.toNat ≤ 1073741824 := hp
  refine ⟨_, _, rfl, ⟨⟨h1, by simp only; omega, hs.1, by simp only; omega, hf.1, by simp only; omega, fun x hx => ?_, hsum⟩, h5, hs.2, hf.2⟩, hde⟩
  -- no tap is greater than the sum of their sizes
  have key : ∀ (l : List Int) (x : Int), x ∈ l → max x (-x) ≤ asum l := by
    intro l x hx
    induction l with
    | nil => simp at hx
    | cons y l ih =>
      simp only [asum]
      have := asum_nn l
      rcases List.mem_cons.1 hx with h | h
      · subst h; omega
      · have := ih h; omega
  have h3 : max x (-x) ≤ asum e.2.2 := key _ x hx
  omega

end Go.Proofs.Ytmihimhknllmcaa.Sh

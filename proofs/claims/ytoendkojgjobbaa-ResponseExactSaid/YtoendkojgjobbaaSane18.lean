/- The chapter's examples as a plain program (chapter 18). -/
import Derived.Test.YtoendkojgjobbaaDiceResp
namespace Go.Proofs.Ytoendkojgjobbaa.Sh
open Go
set_option linter.unusedVariables false
set_option linter.unusedSimpArgs false

theorem low_sg : SG (⟨1, ⟨1, 0, 0⟩, ⟨1, 1, 0⟩, [], 0, 0⟩ : Stage) := .inr (.inl ⟨rfl, rfl, rfl, rfl, by decide, by decide, by decide, by decide, by decide, by decide, by decide⟩)
theorem gain_part : ∃ f : Fraction, response_Gain ⟨[(⟨1, ⟨1, 0, 0⟩, ⟨1, 1, 0⟩, [], 0, 0⟩ : Stage)]⟩ 1 1 = some (f, 0) ∧ ref17_Equal f ⟨[1], [2]⟩ = some (true, 0) := by
  have hs : ∀ s ∈ [(⟨1, ⟨1, 0, 0⟩, ⟨1, 1, 0⟩, [], 0, 0⟩ : Stage)], SG s := fun s hs => by rcases List.mem_singleton.1 hs with rfl; exact low_sg
  rcases Gain_spec hs (by decide) (by decide) (n := 1) (d := 1) (by decide) (by decide) (by decide) (by decide) with ⟨_, p, q, e, hp, hq, h0⟩ | ⟨⟨s, hm, hn⟩, _⟩
  · refine ⟨⟨p, q⟩, e, ?_⟩
    have two : NW [2] 2 := ⟨⟨by simp [Dg], fun _ => by simp, rfl⟩, by simp⟩
    have h2 : gN 1 1 [(⟨1, ⟨1, 0, 0⟩, ⟨1, 1, 0⟩, [], 0, 0⟩ : Stage)] = 1 := by decide
    have h3 : gD 1 1 [(⟨1, ⟨1, 0, 0⟩, ⟨1, 1, 0⟩, [], 0, 0⟩ : Stage)] = 2 := by decide
    rw [h2] at hp
    rw [h3] at hq
    rw [requal_spec hp hq one_nw two (by decide) (by decide)]
    rfl
  · rcases List.mem_singleton.1 hm with rfl
    exact absurd (by decide) hn

theorem rv100 : rate_Valid ⟨100, 1⟩ = some true := by
  have g : rate_gcd 100 1 = some 1 := by
    unfold rate_gcd
    rw [whileM_eq, show rate_gcd_l1 (100, 1) = some (.inl (1, 0)) by decide]
    simp only [Option.bind]
    rw [whileM_eq, show rate_gcd_l1 (1, 0) = some (.inr 1) by decide]
    rfl
  unfold rate_Valid rate_in
  simp [g]
theorem sym121 : response_symmetric [1, 2, 1] = some true := by
  unfold response_symmetric
  rw [whileM_eq, show response_symmetric_l2 [1, 2, 1] 0 = some (.inl 1) by decide]
  simp only [Option.bind]
  rw [whileM_eq, show response_symmetric_l2 [1, 2, 1] 1 = some (.inl 2) by decide]
  simp only [Option.bind]
  rw [whileM_eq, show response_symmetric_l2 [1, 2, 1] 2 = some (.inl 3) by decide]
  simp only [Option.bind]
  rw [whileM_eq, show response_symmetric_l2 [1, 2, 1] 3 = some (.inr true) by decide]
  rfl
theorem g11 : response_gcd 1 1 = some 1 := by
  unfold response_gcd
  rw [whileM_eq, show response_gcd_l1 (1, 1) = some (.inl (1, 0)) by decide]
  simp only [Option.bind]
  rw [whileM_eq, show response_gcd_l1 (1, 0) = some (.inr 1) by decide]
  rfl
theorem g2200 : response_gcd 2 200 = some 2 := by
  unfold response_gcd
  rw [whileM_eq, show response_gcd_l1 (2, 200) = some (.inl (200, 2)) by decide]
  simp only [Option.bind]
  rw [whileM_eq, show response_gcd_l1 (200, 2) = some (.inl (2, 0)) by decide]
  simp only [Option.bind]
  rw [whileM_eq, show response_gcd_l1 (2, 0) = some (.inr 2) by decide]
  rfl
abbrev fir : Stage := ⟨2, ⟨0, 0, 0⟩, ⟨0, 0, 0⟩, [1, 2, 1], 1, 2⟩
theorem fir_sg : SG fir := .inr (.inr ⟨rfl, rfl, rfl, by decide, by decide, by decide, by decide, by decide, by decide, by decide, by decide⟩)
theorem delay_part : response_Delay ⟨[fir]⟩ ⟨100, 1⟩ = some (⟨1, 100⟩, 0) := by
  have hs : ∀ s ∈ [fir], SG s := fun s hs => by rcases List.mem_singleton.1 hs with rfl; exact fir_sg
  have hf : response_factor [fir] = some 1 := by rw [factor_spec (by decide) hs]; decide
  have hfa : response_faster ⟨100, 1⟩ 1 = some (⟨100, 1⟩, true) := by
    unfold response_faster
    rw [g11]
    simp only [Option.bind]
    rw [quoM_at _ _ _ (by decide)]
    have e1 : IntKind.i64.wrap (Int.tdiv 1 1) = 1 := by decide
    rw [e1]
    simp only
    rw [show w64 (100 * 1) = 100 by decide, rv100]
  have hp : response_plus ⟨0, 1⟩ ⟨2, 200⟩ = some ⟨1, 100⟩ := by
    unfold response_plus
    simp only [Option.bind]
    rw [show w64 ((w64 (0 * 200)) + (w64 (2 * 1))) = 2 by decide, show w64 (1 * 200) = 200 by decide, g2200]
    simp only
    rw [quoM_at _ _ _ (by decide), quoM_at _ _ _ (by decide)]
    rfl
  have l4a : response_Delay_l4 ⟨[fir]⟩ ⟨100, 1⟩ (0, 1, 0) = some (.inl (1, 100, 1)) := by
    unfold response_Delay_l4
    simp only
    rw [if_pos (by decide), show ix [fir] 0 = some fir from rfl]
    simp only [Option.bind]
    rw [if_neg (by decide), show subM [fir] 0 (([fir].length : Nat) : Int) = some [fir] from rfl]
    simp only
    rw [hf]
    simp only
    rw [hfa]
    simp only [Bool.not_true, Bool.false_eq_true, if_false]
    rw [show w64 ((w64 (((fir.Taps.length : Nat) : Int) - 1)) * 1) = 2 by decide, show w64 (2 * 100) = 200 by decide, hp]
    rfl
  have l4b : response_Delay_l4 ⟨[fir]⟩ ⟨100, 1⟩ (1, 100, 1) = some (.inr (⟨1, 100⟩, 0)) := by
    unfold response_Delay_l4
    rw [if_neg (by decide)]; rfl
  have l2a : response_Delay_l2 ⟨[fir]⟩ ⟨100, 1⟩ 0 = some (.inl 1) := by
    unfold response_Delay_l2
    rw [if_pos (by decide), show ix [fir] 0 = some fir from rfl]
    simp only [Option.bind]
    rw [if_pos (by decide), sym121]
    rfl
  have l2b : response_Delay_l2 ⟨[fir]⟩ ⟨100, 1⟩ 1 = some (.inr (⟨1, 100⟩, 0)) := by
    unfold response_Delay_l2
    rw [if_neg (by decide), whileM_eq, l4a]
    simp only [Option.bind]
    rw [whileM_eq, l4b]
    rfl
  unfold response_Delay
  rw [rvalid_spec (by decide) hs, rv100, decide_eq_true (show [fir].length ≤ 8 ∧ fac [fir] ≤ 64 by decide)]
  simp only [Option.bind, Bool.not_true, Bool.false_eq_true, if_false]
  rw [whileM_eq, l2a]
  simp only [Option.bind]
  rw [whileM_eq, l2b]
  rfl
theorem sane_true : law18_sane = some true := by
  obtain ⟨f, h1, h2⟩ := gain_part
  unfold law18_sane
  rw [h1]
  simp only [Option.bind]
  rw [h2]
  simp only
  rw [delay_part, vstage_true low_sg]
  rfl

end Go.Proofs.Ytoendkojgjobbaa.Sh

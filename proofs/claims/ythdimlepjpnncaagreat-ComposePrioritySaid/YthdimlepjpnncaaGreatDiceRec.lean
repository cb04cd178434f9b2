/- The identifiers and the records that the dice make are well. -/
import Derived.Test.YthdimlepjpnncaaGreatDice
import Derived.Test.YthdimlepjpnncaaGreatRecF
import Derived.Test.YthdimlepjpnncaaGreatRateRef
namespace Go.Proofs.YthdimlepjpnncaaGreat.Sh
open Go
set_option linter.unusedVariables false
set_option linter.unusedSimpArgs false

theorem pickl_spec {α : Type} {d : Dice} (hd : DOK d) (l : List α) (n : Int) (hn : n = l.length) (h1 : 1 ≤ l.length) (h2 : l.length ≤ 1000) :
    ∃ x d' y, made_Dice_Next d n = some (x, d') ∧ ix l x = some y ∧ y ∈ l ∧ DOK d' := by
  obtain ⟨x, d', e, x0, x1, hd'⟩ := next_spec hd (n := n) (by omega) (by omega)
  exact ⟨x, d', _, e, ix_at l x x0 (by omega), List.getElem_mem _, hd'⟩

theorem dsource_spec {d : Dice} (hd : DOK d) : ∃ s d', made_Dice_Source d = some (s, d') ∧ srcB s = true ∧ DOK d' := by
  unfold made_Dice_Source
  obtain ⟨x1, d1, y1, e1, g1, m1, hd1⟩ := pickl_spec hd [(⟨#[71, 82]⟩ : ByteArray), (⟨#[88]⟩ : ByteArray), (⟨#[55, 65]⟩ : ByteArray)] 3 (by decide) (by decide) (by decide)
  obtain ⟨x2, d2, y2, e2, g2, m2, hd2⟩ := pickl_spec hd1 [(⟨#[70, 85, 82]⟩ : ByteArray), (⟨#[65]⟩ : ByteArray), (⟨#[65, 66, 67, 68, 69]⟩ : ByteArray), (⟨#[70, 85]⟩ : ByteArray)] 4 (by decide) (by decide) (by decide)
  obtain ⟨x3, d3, y3, e3, g3, m3, hd3⟩ := pickl_spec hd2 [(⟨#[]⟩ : ByteArray), (⟨#[48, 48]⟩ : ByteArray), (⟨#[49, 48]⟩ : ByteArray)] 3 (by decide) (by decide) (by decide)
  obtain ⟨x4, d4, y4, e4, g4, m4, hd4⟩ := pickl_spec hd3 [(⟨#[72, 72, 90]⟩ : ByteArray), (⟨#[72, 72, 78]⟩ : ByteArray), (⟨#[66, 72, 90]⟩ : ByteArray)] 3 (by decide) (by decide) (by decide)
  rw [e1]; simp only [Option.bind]
  rw [g1]; simp only
  rw [e2]; simp only
  rw [g2]; simp only
  rw [e3]; simp only
  rw [g3]; simp only
  rw [e4]; simp only
  rw [g4]
  refine ⟨_, _, rfl, ?_, hd4⟩
  have h1 : codeB y1 1 2 = true := by
    simp only [List.mem_cons, List.not_mem_nil, or_false] at m1
    rcases m1 with rfl | rfl | rfl <;> decide
  have h2 : codeB y2 1 5 = true := by
    simp only [List.mem_cons, List.not_mem_nil, or_false] at m2
    rcases m2 with rfl | rfl | rfl | rfl <;> decide
  have h3 : (codeB y3 0 2 && !((y3.size : Int) == 1)) = true := by
    simp only [List.mem_cons, List.not_mem_nil, or_false] at m3
    rcases m3 with rfl | rfl | rfl <;> decide
  have h4 : codeB y4 3 3 = true := by
    simp only [List.mem_cons, List.not_mem_nil, or_false] at m4
    rcases m4 with rfl | rfl | rfl <;> decide
  simp only [Bool.and_eq_true] at h3
  simp only [srcB, h1, h2, h3.1, h3.2, h4, Bool.and_self]

/-- what is known of the records that the dice make -/
structure RG (s : SourceID) (n : Int) (r : Record) : Prop where
  src : r.Source = s
  s0 : 1000000000000 ≤ r.Start
  s1 : r.Start ≤ 1000009750000
  f0 : 0 ≤ r.First
  f1 : r.First ≤ 3
  rv : RV r.Rate
  n3 : r.Rate.Num ≤ 3
  d3 : r.Rate.Den ≤ 3
  e0 : 0 ≤ r.Error
  e1 : r.Error ≤ 500
  r0 : 0 ≤ r.Run
  r1 : r.Run ≤ 1
  q0 : 0 ≤ r.Seq
  q1 : r.Seq ≤ 5
  l0 : 1 ≤ r.Samples.length
  l1 : (r.Samples.length : Int) ≤ n
  smp : ∀ x ∈ r.Samples, 0 ≤ x ∧ x ≤ 3
theorem RG.rf {s : SourceID} {n : Int} {r : Record} (h : RG s n r) (hs : srcB s = true) (hn : n ≤ 1000) : RF r := by
  have l1 := h.l1
  have l0 := h.l0
  have f0 := h.f0
  have f1 := h.f1
  have s1 := h.s1
  have s0 := h.s0
  have d0 := h.rv.d0
  have d3 := h.d3
  have n0 := h.rv.n0
  have e1 := h.e1
  have r1 := h.r1
  have q1 := h.q1
  have k1 : (r.First + r.Samples.length) * (r.Rate.Den * 1000000) ≤ 1003 * 3000000 := Int.mul_le_mul (by omega) (by omega) (by omega) (by omega)
  have k0 : 0 ≤ (r.First + r.Samples.length) * (r.Rate.Den * 1000000) := Int.mul_nonneg (by omega) (by omega)
  have k2 := Int.ediv_le_self r.Rate.Num k0
  exact ⟨by rw [h.src]; exact hs, l0, by omega, f0, by omega, h.e0, by omega, h.r0, by omega, h.q0, by omega, h.rv, by omega, by omega, by omega, smpB_iff.2 fun x hx => by have := h.smp x hx; omega⟩

structure RI (n : Int) (s : List Int × Int × List Int × Int) : Prop where
  dok : DOK ⟨s.1, s.2.1⟩
  rng : ∀ x ∈ s.2.2.1, 0 ≤ x ∧ x ≤ 3
  i0 : 0 ≤ s.2.2.2
  i1 : s.2.2.2 + s.2.2.1.length ≤ n
  ne : s.2.2.2 = 0 → 1 ≤ s.2.2.1.length

theorem New_eq {a b : Int} (a0 : 1 ≤ a) (a1 : a ≤ 4096) (b0 : 1 ≤ b) (b1 : b ≤ 4096) : ref02_New a b = some (⟨a / (Int.gcd a b : Int), b / (Int.gcd a b : Int)⟩, 0) := by
  unfold ref02_New
  rw [ref01_In_eq, ref01_In_eq, inB_true a0 a1, inB_true b0 b1]
  simp only [Option.bind, Bool.not_true, Bool.false_eq_true, if_false]
  rw [ref02_gcd_eq _ _ (by omega) (by omega)]
  have g0 : 0 < Int.gcd a b := Int.gcd_pos_of_ne_zero_left _ (by omega)
  simp only
  rw [quo_nn (by omega) (by omega) (by omega), quo_nn (by omega) (by omega) (by omega)]

theorem drecord_spec {d : Dice} (hd : DOK d) (s : SourceID) {n : Int} (n0 : 1 ≤ n) (n1 : n ≤ 1000) : ∃ r d', made_Dice_Record d s n = some (r, d') ∧ RG s n r ∧ DOK d' := by
  unfold made_Dice_Record
  obtain ⟨a, d1, e1, ha, hd1⟩ := pick_spec hd (l := [1, 2, 2, 3]) (by decide) (by decide)
  obtain ⟨b, d2, e2, hb, hd2⟩ := pick_spec hd1 (l := [1, 1, 1, 3]) (by decide) (by decide)
  obtain ⟨c, d3, e3, c0, c1, hd3⟩ := next_spec hd2 (n := 40) (by decide) (by decide)
  obtain ⟨fi, d4, e4, hfi, hd4⟩ := pick_spec hd3 (l := [0, 0, 3]) (by decide) (by decide)
  obtain ⟨er, d5, e5, her, hd5⟩ := pick_spec hd4 (l := [0, 0, 10, 500]) (by decide) (by decide)
  obtain ⟨ru, d6, e6, ru0, ru1, hd6⟩ := next_spec hd5 (n := 2) (by decide) (by decide)
  obtain ⟨sq, d7, e7, sq0, sq1, hd7⟩ := next_spec hd6 (n := 6) (by decide) (by decide)
  obtain ⟨m, d8, e8, m0, m1, hd8⟩ := next_spec hd7 (n := n) n0 (by omega)
  have ha' : a = 1 ∨ a = 2 ∨ a = 3 := by simp at ha; omega
  have hb' : b = 1 ∨ b = 3 := by simp at hb; omega
  have hfi' : fi = 0 ∨ fi = 3 := by simp at hfi; omega
  have her' : er = 0 ∨ er = 10 ∨ er = 500 := by simp at her; omega
  rw [e1]; simp only [Option.bind]
  rw [e2]; simp only
  rw [New_eq (by omega) (by omega) (by omega) (by omega)]; simp only
  rw [e3]; simp only
  rw [e4]; simp only
  rw [e5]; simp only
  rw [e6]; simp only
  rw [e7]; simp only
  rw [e8]; simp only
  rw [w64_id (x := 1 + m) (by omega) (by omega), w64_id (x := 250000 * c) (by omega) (by omega), w64_id (x := 1000000000000 + 250000 * c) (by omega) (by omega)]
  have hw := whileM_inv (body := made_Dice_Record_l1) (RI n) (fun s => s.2.2.2.toNat)
    (fun e => DOK ⟨e.1, e.2.1⟩ ∧ (∀ x ∈ e.2.2, 0 ≤ x ∧ x ≤ 3) ∧ 1 ≤ e.2.2.length ∧ (e.2.2.length : Int) ≤ n) (by
      intro s hs
      obtain ⟨dok, rng, i0, i1, ne⟩ := hs
      by_cases hi : 0 < s.2.2.2
      · left
        obtain ⟨x, d', e, x0, x1, hd'⟩ := next_spec dok (n := 4) (by decide) (by decide)
        unfold made_Dice_Record_l1
        rw [if_pos (decide_eq_true hi), e]
        simp only [Option.bind]
        rw [appM_one _ _ _ (by simp; omega) (by decide), w64_id (by omega) (by omega)]
        refine ⟨_, rfl, ⟨hd', ?_, by simp only; omega, by simp; omega, fun _ => by simp⟩, by simp only; omega⟩
        intro y hy
        simp only [List.mem_append, List.mem_singleton] at hy
        rcases hy with hy | hy
        · exact rng y hy
        · omega
      · right
        unfold made_Dice_Record_l1
        rw [if_neg (by simpa using hi)]
        exact ⟨_, rfl, dok, rng, ne (by omega), by simp only; omega⟩)
    (d8.L, d8.At, [], 1 + m) ⟨hd8, by simp, by simp only; omega, by simp; omega, fun h => by simp only at h; omega⟩
  obtain ⟨e, he, hde, hr, hl1, hl2⟩ := hw
  rw [he]
  have hrate : RV ⟨a / (Int.gcd a b : Int), b / (Int.gcd a b : Int)⟩ ∧ a / (Int.gcd a b : Int) ≤ 3 ∧ b / (Int.gcd a b : Int) ≤ 3 := by
    rcases ha' with rfl | rfl | rfl <;> rcases hb' with rfl | rfl <;> exact ⟨rateVB_iff.1 (by decide), by decide, by decide⟩
  exact ⟨_, _, rfl, ⟨rfl, by simp only; omega, by simp only; omega, by simp only; omega, by simp only; omega, hrate.1, hrate.2.1, hrate.2.2, by simp only; omega, by simp only; omega, ru0, by simp only; omega, sq0, by simp only; omega, hl1, hl2, hr⟩, hde⟩

end Go.Proofs.YthdimlepjpnncaaGreat.Sh

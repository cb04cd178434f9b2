/- The pickings and segments that the dice make are well (chapter 23). -/
import Derived.Test.YtmlekplbmfengaaGreatDice
import Derived.Test.YtmlekplbmfengaaGreatSeg
namespace Go.Proofs.YtmlekplbmfengaaGreat.Sh
open Go
set_option linter.unusedVariables false
set_option linter.unusedSimpArgs false
theorem pickl_spec {α : Type} {d : Dice} (hd : DOK d) (l : List α) (n : Int) (hn : n = l.length) (h1 : 1 ≤ l.length) (h2 : l.length ≤ 1000) :
    ∃ x d' y, made_Dice_Next d n = some (x, d') ∧ ix l x = some y ∧ y ∈ l ∧ DOK d' := by
  obtain ⟨x, d', e, x0, x1, hd'⟩ := next_spec hd (n := n) (by omega) (by omega)
  exact ⟨x, d', _, e, ix_at l x x0 (by omega), List.getElem_mem _, hd'⟩
theorem dsource_spec {d : Dice} (hd : DOK d) : ∃ s d', made_Dice_Source d = some (s, d') ∧ srcB s = true ∧ DOK d' := by
  unfold made_Dice_Source
  obtain ⟨x1, d1, y1, e1, g1, m1, hd1⟩ := pickl_spec hd [(⟨#[71, 82]⟩ : ByteArray), (⟨#[88]⟩ : ByteArray), (⟨#[55, 65]⟩ : ByteArray)] 3 (by decide) (by decide) (by decide)
  obtain ⟨x2, d2, y2, e2, g2, m2, hd2⟩ := pickl_spec hd1 [(⟨#[70, 85, 82]⟩ : ByteArray), (⟨#[65]⟩ : ByteArray), (⟨#[65, 66, 67, 68, 69]⟩ : ByteArray), (⟨#[70, 85]⟩ : ByteArray)] 4 (by decide) (by decide) (by decide)
  obtain ⟨x3, d3, y3, e3, g3, m3, hd3⟩ := pickl_spec hd2 [(⟨#[]⟩ : ByteArray), (⟨#[48, 48]⟩ : ByteArray), (⟨#[49, 48]⟩ : ByteArray)] 3 (by decide) (by decide) (by decide)
  obtain ⟨x4, d4, y4, e4, g4, m4, hd4⟩ := pickl_spec hd3 [(⟨#[72, 72, 90]⟩ : ByteArray), (⟨#[72, 72, 78]⟩ : ByteArray), (⟨#[66, 72, 90]⟩ : ByteArray)] 3 (by decide) (by decide) (by decide)
  rw [e1]; simp only [Option.bind]
  rw [g1]; simp only
  rw [e2]; simp only
  rw [g2]; simp only
  rw [e3]; simp only
  rw [g3]; simp only
  rw [e4]; simp only
  rw [g4]
  refine ⟨_, _, rfl, ?_, hd4⟩
  have h1 : codeB y1 1 2 = true := by
    simp only [List.mem_cons, List.not_mem_nil, or_false] at m1
    rcases m1 with rfl | rfl | rfl <;> decide
  have h2 : codeB y2 1 5 = true := by
    simp only [List.mem_cons, List.not_mem_nil, or_false] at m2
    rcases m2 with rfl | rfl | rfl | rfl <;> decide
  have h3 : (codeB y3 0 2 && !((y3.size : Int) == 1)) = true := by
    simp only [List.mem_cons, List.not_mem_nil, or_false] at m3
    rcases m3 with rfl | rfl | rfl <;> decide
  have h4 : codeB y4 3 3 = true := by
    simp only [List.mem_cons, List.not_mem_nil, or_false] at m4
    rcases m4 with rfl | rfl | rfl <;> decide
  simp only [Bool.and_eq_true] at h3
  simp only [srcB, h1, h2, h3.1, h3.2, h4, Bool.and_self]
theorem ddet_spec {d : Dice} (hd : DOK d) : ∃ D d', made_Dice_Detector d = some (D, d') ∧ (DV D ∧ D.Long ≤ 9 ∧ D.On ≤ 220) ∧ DOK d' := by
  unfold made_Dice_Detector
  obtain ⟨a, d1, e1, a0, a1, hd1⟩ := next_spec hd (n := 3) (by decide) (by decide)
  obtain ⟨b, d2, e2, mb, hd2⟩ := pick_spec hd1 (l := [50, 100, 120]) (by decide) (by decide)
  obtain ⟨c, d3, e3, c0, c1, hd3⟩ := next_spec hd2 (n := 6) (by decide) (by decide)
  obtain ⟨o, d4, e4, mo, hd4⟩ := pick_spec hd3 (l := [0, 50, 100]) (by decide) (by decide)
  simp only [List.mem_cons, List.not_mem_nil, or_false] at mb mo
  rw [e1]; simp only [Option.bind_some]
  rw [e2]; simp only [Option.bind_some]
  rw [e3]; simp only [Option.bind_some]
  rw [e4]; simp only [Option.bind_some]
  rw [w64_id (x := 1 + a) (by omega) (by omega), w64_id (x := 1 + a + 1) (by omega) (by omega), w64_id (x := 1 + a + 1 + c) (by omega) (by omega), w64_id (x := b + o) (by omega) (by omega)]
  exact ⟨_, _, rfl, ⟨⟨by simp only; omega, by simp only; omega, by simp only; omega, by simp only; omega, by simp only; omega, by simp only; omega⟩, by simp only; omega, by simp only; omega⟩, hd4⟩
structure PD (p : Picking) : Prop where
  pv : PV p
  lg : p.Detector.Long ≤ 9
  bk : p.Back ≤ 4
  lv : 50 ≤ p.Level ∧ p.Level ≤ 200
  fl : p.Floor ≤ 30
theorem dpicking_spec {d : Dice} (hd : DOK d) : ∃ p d', made_Dice_Picking d = some (p, d') ∧ PD p ∧ DOK d' := by
  unfold made_Dice_Picking
  obtain ⟨D, d1, e1, ⟨hD, hL, _⟩, hd1⟩ := ddet_spec hd
  obtain ⟨b, d2, e2, b0, b1, hd2⟩ := next_spec hd1 (n := 5) (by decide) (by decide)
  obtain ⟨c, d3, e3, mc, hd3⟩ := pick_spec hd2 (l := [50, 100, 200]) (by decide) (by decide)
  obtain ⟨f, d4, e4, mf, hd4⟩ := pick_spec hd3 (l := [0, 0, 30]) (by decide) (by decide)
  simp only [List.mem_cons, List.not_mem_nil, or_false] at mc mf
  rw [e1]; simp only [Option.bind_some]
  rw [e2]; simp only [Option.bind_some]
  rw [e3]; simp only [Option.bind_some]
  rw [e4]
  exact ⟨_, _, rfl, ⟨⟨hD, by simp only; omega, by simp only; omega, by simp only; omega, by simp only; omega, by simp only; omega, by simp only; omega⟩, hL, by simp only; omega, by simp only; omega, by simp only; omega⟩, hd4⟩
/-- a wave -/
def WV (n : Int) (l : List Int) : Prop := 1 ≤ l.length ∧ (l.length : Int) ≤ n ∧ ∀ v ∈ l, -79 ≤ v ∧ v ≤ 79
theorem dwave_spec {d : Dice} (hd : DOK d) {n : Int} (n1 : 1 ≤ n) (n2 : n ≤ 1000) : ∃ l d', made_Dice_Wave d n = some (l, d') ∧ WV n l ∧ DOK d' := by
  unfold made_Dice_Wave
  obtain ⟨m, d1, e1, m0, m1, hd1⟩ := next_spec hd (n := n) n1 (by omega)
  rw [e1]; simp only [Option.bind_some]
  rw [w64_id (x := 1 + m) (by omega) (by omega)]
  obtain ⟨r, e, hr, h1, h2, h3⟩ := loop_ex (b1 := made_Dice_Wave_l1)
    (fun k s => DOK ⟨s.1, s.2.1⟩ ∧ (∀ v ∈ s.2.2.1, -79 ≤ v ∧ v ≤ 79) ∧ 0 ≤ s.2.2.2.2 ∧ s.2.2.2.2 + s.2.2.1.length = 1 + m ∧ 0 ≤ s.2.2.2.1 ∧ s.2.2.2.1 ≤ 6 ∧ k = s.2.2.2.2.toNat)
    (fun r => DOK ⟨r.1, r.2.1⟩ ∧ (r.2.2.length : Int) = 1 + m ∧ (∀ v ∈ r.2.2, -79 ≤ v ∧ v ≤ 79) ∧ True)
    (fun k s ⟨hdk, hs, i0, hi, l0, l6, hk⟩ => by
      obtain ⟨L, At, out, loud, i⟩ := s
      simp only at hdk hs i0 hi l0 l6 hk
      by_cases hpos : 0 < i
      · left
        have j2 : ∀ (L' : List Int) (At' : Int) (loud' x : Int), DOK ⟨L', At'⟩ → 0 ≤ loud' → loud' ≤ 6 → -79 ≤ x → x ≤ 79 → ∃ s' n', made_Dice_Wave_j2 (L, At, out, loud, i) L' At' loud' x = some (.inl s') ∧ (DOK ⟨s'.1, s'.2.1⟩ ∧ (∀ v ∈ s'.2.2.1, -79 ≤ v ∧ v ≤ 79) ∧ 0 ≤ s'.2.2.2.2 ∧ s'.2.2.2.2 + s'.2.2.1.length = 1 + m ∧ 0 ≤ s'.2.2.2.1 ∧ s'.2.2.2.1 ≤ 6 ∧ n' = s'.2.2.2.2.toNat) ∧ n' < k := by
          intro L' At' loud' x hd' q0 q1 x0 x1
          unfold made_Dice_Wave_j2
          simp only
          rw [appM_one _ _ _ (by simp; omega) (by decide)]
          simp only [Option.bind_some]
          rw [w64_id (x := i - 1) (by omega) (by omega)]
          refine ⟨_, (i - 1).toNat, rfl, ⟨hd', fun v hv => ?_, by simp only; omega, by simp; omega, q0, q1, rfl⟩, by omega⟩
          rcases List.mem_append.1 hv with hv | hv
          · exact hs v hv
          · rcases List.mem_singleton.1 hv with rfl; exact ⟨x0, x1⟩
        have j1 : ∀ (L' : List Int) (At' : Int) (loud' : Int), DOK ⟨L', At'⟩ → 0 ≤ loud' → loud' ≤ 6 → ∃ s' n', made_Dice_Wave_j1 (L, At, out, loud, i) L' At' loud' = some (.inl s') ∧ (DOK ⟨s'.1, s'.2.1⟩ ∧ (∀ v ∈ s'.2.2.1, -79 ≤ v ∧ v ≤ 79) ∧ 0 ≤ s'.2.2.2.2 ∧ s'.2.2.2.2 + s'.2.2.1.length = 1 + m ∧ 0 ≤ s'.2.2.2.1 ∧ s'.2.2.2.1 ≤ 6 ∧ n' = s'.2.2.2.2.toNat) ∧ n' < k := by
          intro L' At' loud' hd' q0 q1
          unfold made_Dice_Wave_j1
          obtain ⟨x, d2, e2, x0, x1, hd2⟩ := next_spec hd' (n := 5) (by decide) (by decide)
          rw [e2]; simp only [Option.bind_some]
          rw [w64_id (x := x - 2) (by omega) (by omega)]
          by_cases hl : 0 < loud'
          · obtain ⟨y, d3, e3, y0, y1, hd3⟩ := next_spec hd2 (n := 60) (by decide) (by decide)
            obtain ⟨z, d4, e4, z0, z1, hd4⟩ := next_spec hd3 (n := 2) (by decide) (by decide)
            rw [if_pos (decide_eq_true hl), e3]; simp only [Option.bind_some]
            rw [e4]; simp only [Option.bind_some]
            rw [w64_id (x := y + 20) (by omega) (by omega), w64_id (x := 2 * z) (by omega) (by omega), w64_id (x := 1 - 2 * z) (by omega) (by omega), w64_id (x := loud' - 1) (by omega) (by omega)]
            have hz : z = 0 ∨ z = 1 := by omega
            have hprod : w64 ((y + 20) * (1 - 2 * z)) = y + 20 ∨ w64 ((y + 20) * (1 - 2 * z)) = -(y + 20) := by
              rcases hz with rfl | rfl
              · left; rw [show (y + 20) * (1 - 2 * 0) = y + 20 by omega, w64_id (by omega) (by omega)]
              · right; rw [show (y + 20) * (1 - 2 * 1) = -(y + 20) by omega, w64_id (by omega) (by omega)]
            exact j2 _ _ _ _ hd4 (by omega) (by omega) (by omega) (by omega)
          · rw [if_neg (by simpa using hl)]
            exact j2 _ _ _ _ hd2 q0 q1 (by omega) (by omega)
        have fin : ∀ {o : Option ((List Int × Int × List Int × Int × Int) ⊕ (List Int × Int × List Int))}, (∃ s' n', o = some (.inl s') ∧ (DOK ⟨s'.1, s'.2.1⟩ ∧ (∀ v ∈ s'.2.2.1, -79 ≤ v ∧ v ≤ 79) ∧ 0 ≤ s'.2.2.2.2 ∧ s'.2.2.2.2 + s'.2.2.1.length = 1 + m ∧ 0 ≤ s'.2.2.2.1 ∧ s'.2.2.2.1 ≤ 6 ∧ n' = s'.2.2.2.2.toNat) ∧ n' < k) → ∃ s' n', o = some (.inl s') ∧ (DOK ⟨s'.1, s'.2.1⟩ ∧ (∀ v ∈ s'.2.2.1, -79 ≤ v ∧ v ≤ 79) ∧ 0 ≤ s'.2.2.2.2 ∧ s'.2.2.2.2 + s'.2.2.1.length = 1 + m ∧ 0 ≤ s'.2.2.2.1 ∧ s'.2.2.2.1 ≤ 6 ∧ n' = s'.2.2.2.2.toNat) ∧ n' < k := fun h => h
        unfold made_Dice_Wave_l1
        simp only
        rw [if_pos (decide_eq_true hpos)]
        by_cases hq : loud = 0
        · obtain ⟨y, d2, e2, y0, y1, hd2⟩ := next_spec hdk (n := 7) (by decide) (by decide)
          rw [if_pos (by simpa using hq), e2]
          simp only [Option.bind_some]
          by_cases hy : (y == 0) = true
          · obtain ⟨z, d3, e3, z0, z1, hd3⟩ := next_spec hd2 (n := 6) (by decide) (by decide)
            rw [if_pos hy, e3]
            simp only [Option.bind_some]
            rw [w64_id (x := 1 + z) (by omega) (by omega)]
            exact j1 _ _ _ hd3 (by omega) (by omega)
          · rw [if_neg hy]
            exact j1 _ _ _ hd2 l0 l6
        · rw [if_neg (by simpa using hq)]
          simp only [Option.bind_some, Bool.false_eq_true, if_false]
          exact j1 _ _ _ hdk l0 l6
      · right
        refine ⟨(L, At, out), ?_, hdk, by simp only; omega, hs, trivial⟩
        unfold made_Dice_Wave_l1
        simp only
        rw [if_neg (by simpa using hpos)]) (1 + m).toNat (d1.L, d1.At, [], 0, 1 + m) ⟨hd1, by simp, by simp only; omega, by simp, by simp, by simp, rfl⟩
  rw [e]
  exact ⟨_, _, rfl, ⟨by omega, by omega, h2⟩, hr⟩
/-- a segment that the dice make -/
structure GS (n : Int) (g : Segment) : Prop where
  rf : RF (bodyR g)
  s0 : 1000000000000 ≤ g.Start
  s1 : g.Start ≤ 1000003000000
  f1 : g.First ≤ 5
  nm : g.Rate.Num ≤ 20
  dn : g.Rate.Den = 1
  er : g.Error ≤ 2000000
  wv : WV n g.Samples
theorem seg_rf {g : Segment} {n : Int} (hn : n ≤ 1000) (s0 : 0 ≤ g.Start) (s1 : g.Start ≤ 2000000000000) (f0 : 0 ≤ g.First) (f1 : g.First ≤ 5) (rv : RV g.Rate) (dn : g.Rate.Den = 1) (e0 : 0 ≤ g.Error) (e1 : g.Error ≤ 2000000) (l1 : 1 ≤ g.Samples.length) (l2 : (g.Samples.length : Int) ≤ n)
    (hs : ∀ v ∈ g.Samples, -1073741823 ≤ v ∧ v ≤ 1073741823) : RF (bodyR g) := by
  refine ⟨(show srcB (bodyR sg0).Source = true by decide), l1, by simp only [bodyR]; omega, f0, by simp only [bodyR]; omega, e0, by simp only [bodyR]; omega, by simp only [bodyR]; omega, by simp only [bodyR]; omega, by simp only [bodyR]; omega, by simp only [bodyR]; omega, rv, s0, by simp only [bodyR]; omega, ?_, smpB_iff.2 hs⟩
  simp only [bodyR]
  rw [dn]
  have h0 := rv.n0
  have h1 : (g.First + (g.Samples.length : Int)) * (1 * 1000000) / g.Rate.Num ≤ (g.First + (g.Samples.length : Int)) * (1 * 1000000) := Int.ediv_le_self _ (by omega)
  omega
theorem dsegment_spec {d : Dice} (hd : DOK d) {n : Int} (n1 : 1 ≤ n) (n2 : n ≤ 1000) : ∃ g d', made_Dice_Segment d n = some (g, d') ∧ GS n g ∧ DOK d' := by
  unfold made_Dice_Segment
  obtain ⟨a, d1, e1, a0, a1, hd1⟩ := next_spec hd (n := 3000000) (by decide) (by decide)
  obtain ⟨f, d2, e2, mf, hd2⟩ := pick_spec hd1 (l := [0, 0, 5]) (by decide) (by decide)
  obtain ⟨r, d3, e3, mr, hd3⟩ := pick_spec hd2 (l := [1, 4, 20, 3]) (by decide) (by decide)
  obtain ⟨b, d4, e4, mb, hd4⟩ := pick_spec hd3 (l := [0, 10, 2000000]) (by decide) (by decide)
  obtain ⟨w, d5, e5, hw, hd5⟩ := dwave_spec hd4 n1 n2
  simp only [List.mem_cons, List.not_mem_nil, or_false] at mf mr mb
  rw [e1]; simp only [Option.bind_some]
  rw [e2]; simp only [Option.bind_some]
  rw [e3]; simp only [Option.bind_some]
  rw [e4]; simp only [Option.bind_some]
  rw [e5]; simp only [Option.bind_some]
  rw [w64_id (x := 1000000000000 + a) (by omega) (by omega)]
  have hrv : RV ⟨r, 1⟩ := by
    rcases mr with rfl | rfl | rfl | rfl
    · exact ⟨by decide, by decide, by decide, by decide, by decide⟩
    · exact ⟨by decide, by decide, by decide, by decide, by decide⟩
    · exact ⟨by decide, by decide, by decide, by decide, by decide⟩
    · exact ⟨by decide, by decide, by decide, by decide, by decide⟩
  refine ⟨_, _, rfl, ⟨seg_rf (n := n) n2 (by simp only; omega) (by simp only; omega) (by simp only; omega) (by simp only; omega) hrv rfl (by simp only; omega) (by simp only; omega) hw.1 hw.2.1 (fun v hv => by have := hw.2.2 v hv; omega), by simp only; omega, by simp only; omega, by simp only; omega, by simp only; omega, rfl, by simp only; omega, hw⟩, hd5⟩
end Go.Proofs.YtmlekplbmfengaaGreat.Sh

/- More of the filters as plain programs: the samples that the dice make, outputs in their range, sums that are linear. -/
import Derived.Test.YtmihimhknllmcaaDiceFlt
namespace Go.Proofs.Ytmihimhknllmcaa.Sh
open Go
set_option linter.unusedVariables false
set_option linter.unusedSimpArgs false

theorem tuple_at {α : Type} (x : α) : True := trivial

/-- a round of the samples: what is put at the end -/
theorem samples_j {sv : List Int × Int × List Int × Int × Int} {d : Dice} (hd : DOK d) {x : Int} (hl : sv.2.2.1.length ≤ 1000) (hi0 : 0 < sv.2.2.2.2) (hi1 : sv.2.2.2.2 ≤ 1001) :
    made_Dice_Samples_j1 sv d.L d.At x = some (.inl (d.L, d.At, sv.2.2.1 ++ [min (max x (-1073741823)) 1073741823], min (max x (-1073741823)) 1073741823, sv.2.2.2.2 - 1)) := by
  unfold made_Dice_Samples_j1
  simp only [Option.bind]
  rw [appM_one _ _ _ (by simp; omega) (by decide), w64_id (by omega) (by omega)]

structure SI (n : Int) (s : List Int × Int × List Int × Int × Int) : Prop where
  dok : DOK ⟨s.1, s.2.1⟩
  rng : ∀ x ∈ s.2.2.1, -1073741823 ≤ x ∧ x ≤ 1073741823
  x0 : -1073741823 ≤ s.2.2.2.1
  x1 : s.2.2.2.1 ≤ 1073741823
  i0 : 0 ≤ s.2.2.2.2
  i1 : s.2.2.2.2 + s.2.2.1.length ≤ n
  ne : s.2.2.2.2 = 0 → 1 ≤ s.2.2.1.length

theorem samples_spec {d : Dice} (hd : DOK d) {n : Int} (h1 : 1 ≤ n) (h2 : n ≤ 1000) : ∃ xs d', made_Dice_Samples d n = some (xs, d') ∧ (∀ x ∈ xs, -1073741823 ≤ x ∧ x ≤ 1073741823) ∧ 1 ≤ xs.length ∧ xs.length ≤ n ∧ DOK d' := by
  unfold made_Dice_Samples
  obtain ⟨x, d1, e1, hx, hd1⟩ := pick_spec hd (l := [0, 5, -100, 1000]) (by decide) (by decide)
  obtain ⟨m, d2, e2, hm0, hm1, hd2⟩ := next_spec hd1 (n := n) h1 (by omega)
  rw [e1]; simp only [Option.bind]
  rw [e2]; simp only [Option.bind]
  rw [w64_id (x := 1 + m) (by omega) (by omega)]
  have hx' : -100 ≤ x ∧ x ≤ 1000 := by simp at hx; omega
  have hw := whileM_inv (body := made_Dice_Samples_l1) (SI n) (fun s => s.2.2.2.2.toNat)
    (fun e => DOK ⟨e.1, e.2.1⟩ ∧ (∀ x ∈ e.2.2, -1073741823 ≤ x ∧ x ≤ 1073741823) ∧ 1 ≤ e.2.2.length ∧ (e.2.2.length : Int) ≤ n) (by
      intro s hs
      obtain ⟨dok, rng, x0, x1, i0, i1, ne⟩ := hs
      by_cases hi : 0 < s.2.2.2.2
      · left
        have fin : ∀ (d : Dice) (x : Int), DOK d → ∃ s', some (Sum.inl (β := List Int × Int × List Int) (d.L, d.At, s.2.2.1 ++ [min (max x (-1073741823)) 1073741823], min (max x (-1073741823)) 1073741823, s.2.2.2.2 - 1)) = some (.inl s') ∧ SI n s' ∧ s'.2.2.2.2.toNat < s.2.2.2.2.toNat := by
          intro d x hd
          refine ⟨_, rfl, ⟨hd, ?_, by simp only; omega, by simp only; omega, by simp only; omega, by simp; omega, fun _ => by simp⟩, by simp only; omega⟩
          intro y hy
          simp only [List.mem_append, List.mem_singleton] at hy
          rcases hy with hy | hy
          · exact rng y hy
          · omega
        unfold made_Dice_Samples_l1
        rw [if_pos (decide_eq_true hi)]
        obtain ⟨a, da, ea, a0, a1, hda⟩ := next_spec dok (n := 10) (by decide) (by decide)
        rw [ea]
        simp only [Option.bind]
        by_cases c0 : a = 0
        · obtain ⟨b, db, eb, hb, hdb⟩ := pick_spec hda (l := [127, 128, -128, -129, 300]) (by decide) (by decide)
          rw [if_pos (by simp [c0]), eb]
          simp only
          rw [samples_j hdb (by omega) hi (by omega)]
          exact fin _ _ hdb
        · rw [if_neg (by simp [c0])]
          by_cases c1 : a = 1
          · obtain ⟨b, db, eb, hb, hdb⟩ := pick_spec hda (l := [32767, 32768, -32768, -32769]) (by decide) (by decide)
            rw [if_pos (by simp [c1]), eb]
            simp only
            unfold made_Dice_Samples_j2
            rw [samples_j hdb (by omega) hi (by omega)]
            exact fin _ _ hdb
          · rw [if_neg (by simp [c1])]
            by_cases c2 : a = 2
            · obtain ⟨b, db, eb, hb, hdb⟩ := pick_spec hda (l := [0, 1073741823, -1073741823, 536870912]) (by decide) (by decide)
              rw [if_pos (by simp [c2]), eb]
              simp only
              unfold made_Dice_Samples_j3 made_Dice_Samples_j2
              rw [samples_j hdb (by omega) hi (by omega)]
              exact fin _ _ hdb
            · obtain ⟨b, db, eb, b0, b1, hdb⟩ := next_spec hda (n := 9) (by decide) (by decide)
              rw [if_neg (by simp [c2]), eb]
              simp only
              unfold made_Dice_Samples_j3 made_Dice_Samples_j2
              rw [samples_j hdb (by omega) hi (by omega)]
              exact fin _ _ hdb
      · right
        unfold made_Dice_Samples_l1
        rw [if_neg (by simpa using hi)]
        exact ⟨_, rfl, dok, rng, ne (by omega), by simp only; omega⟩)
    (d2.L, d2.At, [], x, 1 + m) ⟨hd2, by simp, by simp only; omega, by simp only; omega, by simp only; omega, by simp; omega, fun h => by simp only at h; omega⟩
  obtain ⟨e, he, hde, hr, hl1, hl2⟩ := hw
  rw [he]
  exact ⟨_, _, rfl, hr, hl1, hl2, hde⟩

theorem inrange_true {xs : List Int} (h : ∀ x ∈ xs, -1073741823 ≤ x ∧ x ≤ 1073741823) (hl : xs.length ≤ 1000000000) : ref05_InRange xs = some true := by
  unfold ref05_InRange
  refine whileM_for' (fun i => (i : Int)) xs.length _ rfl (fun i hi => ?_) ?_
  · have hx := h xs[i] (List.getElem_mem _)
    unfold ref05_InRange_l2
    rw [if_pos (decide_eq_true (by omega)), ix_nat _ _ hi]
    simp only [Option.bind, ref05_Sample, ref01_In, hx.1, hx.2, decide_true, Bool.and_self, Bool.not_true, Bool.false_eq_true, if_false]
    rw [w64_id (by omega) (by omega)]
    rfl
  · unfold ref05_InRange_l2
    rw [if_neg (by simp)]
    rfl

/-- an output lies in the range of the samples -/
theorem out_rng {f : Filter} (h : VF f) {xs : List Int} (hx : ∀ x ∈ xs, -1073741823 ≤ x ∧ x ≤ 1073741823) (i : Nat) :
    -1073741823 ≤ (dot f.Taps xs i f.Taps.length).fdiv (2 ^ f.Shift.toNat) ∧ (dot f.Taps xs i f.Taps.length).fdiv (2 ^ f.Shift.toNat) ≤ 1073741823 := by
  obtain ⟨h1, h2⟩ := dot_le f.Taps xs 1073741823 (by decide) hx i f.Taps.length (Nat.le_refl _)
  rw [List.take_length] at h1 h2
  have hs := h.sum
  have hp := pow_pos' f.Shift.toNat
  generalize (2 : Int) ^ f.Shift.toNat = V at *
  have hb : asum f.Taps * 1073741823 ≤ V * 1073741823 := Int.mul_le_mul_of_nonneg_right hs (by decide)
  rw [Int.fdiv_eq_ediv_of_nonneg _ (by omega)]
  refine ⟨?_, ?_⟩
  · rw [Int.le_ediv_iff_mul_le (by omega)]
    rw [Int.mul_comm (-1073741823) V, Int.mul_neg]
    omega
  · have : (dot f.Taps xs i f.Taps.length) / V < 1073741824 := by
      rw [Int.ediv_lt_iff_lt_mul (by omega)]
      rw [Int.mul_comm 1073741824 V]
      omega
    omega

theorem outs_rng {f : Filter} (h : VF f) {xs : List Int} (hx : ∀ x ∈ xs, -1073741823 ≤ x ∧ x ≤ 1073741823) (number : Int) (a m : Nat) : ∀ v ∈ outs f xs number a m, -1073741823 ≤ v ∧ v ≤ 1073741823 := by
  induction m with
  | zero => simp [outs]
  | succ m ih =>
    intro v hv
    simp only [outs, List.mem_append] at hv
    rcases hv with hv | hv
    · exact ih v hv
    · split at hv
      · simp only [List.mem_singleton] at hv
        subst hv
        exact out_rng h hx _
      · simp at hv

theorem outs_prefix (f : Filter) (xs : List Int) (number : Int) (a i m : Nat) (h : i ≤ m) : ∃ r, outs f xs number a m = outs f xs number a i ++ r := by
  induction m with
  | zero => have : i = 0 := by omega
            subst this; exact ⟨[], by simp⟩
  | succ m ih =>
    by_cases hi : i = m + 1
    · subst hi; exact ⟨[], by simp⟩
    · obtain ⟨r, hr⟩ := ih (by omega)
      exact ⟨_, by rw [outs, hr, List.append_assoc]⟩

theorem outs_one {f : Filter} (h : f.Factor = 1) (xs : List Int) (number : Int) (a m : Nat) : outs f xs number a m = (List.range m).map (fun i => (dot f.Taps xs (a + i) f.Taps.length).fdiv (2 ^ f.Shift.toNat)) := by
  induction m with
  | zero => rfl
  | succ m ih => simp only [outs, ih, h, Int.emod_one, if_true, List.range_succ, List.map_append, List.map_cons, List.map_nil]

theorem getD_map (b : List Int) (V : Int) (j : Nat) : (b.map (· * V)).getD j 0 = b.getD j 0 * V := by
  simp only [List.getD_eq_getElem?_getD, List.getElem?_map]
  cases b[j]? <;> simp

theorem dot_scale (t b : List Int) (V : Int) (i m : Nat) : dot t (b.map (· * V)) i m = dot t b i m * V := by
  induction m with
  | zero => simp [dot]
  | succ m ih => rw [dot, ih, getD_map, dot, Int.add_mul, Int.mul_assoc]

theorem dot_lin (t a b : List Int) (c : Int) (hl : a.length = b.length) (i m : Nat) : dot t (List.zipWith (fun x y => x + c * y) a b) i m = dot t a i m + c * dot t b i m := by
  induction m with
  | zero => simp [dot]
  | succ m ih =>
    have hg : (List.zipWith (fun x y => x + c * y) a b).getD (i - m) 0 = a.getD (i - m) 0 + c * b.getD (i - m) 0 := by
      simp only [List.getD_eq_getElem?_getD, List.getElem?_zipWith]
      by_cases h : i - m < a.length
      · have h2 : i - m < b.length := by omega
        simp [List.getElem?_eq_getElem h, List.getElem?_eq_getElem h2]
      · have h2 : ¬ i - m < b.length := by omega
        simp [List.getElem?_eq_none (Nat.le_of_not_lt h), List.getElem?_eq_none (Nat.le_of_not_lt h2)]
    rw [dot, ih, hg, dot, dot, Int.mul_add, Int.mul_add]
    have : t.getD m 0 * (c * b.getD (i - m) 0) = c * (t.getD m 0 * b.getD (i - m) 0) := by
      rw [← Int.mul_assoc, Int.mul_comm (t.getD m 0) c, Int.mul_assoc]
    rw [this]
    omega

theorem dot_drop (t b : List Int) (k i m : Nat) (h : m ≤ i + 1) : dot t (b.drop k) i m = dot t b (i + k) m := by
  induction m with
  | zero => rfl
  | succ m ih =>
    have hg : (b.drop k).getD (i - m) 0 = b.getD (i + k - m) 0 := by
      simp only [List.getD_eq_getElem?_getD, List.getElem?_drop]
      congr 2
      omega
    rw [dot, ih (by omega), hg, dot]

end Go.Proofs.Ytmihimhknllmcaa.Sh

/- Louder samples, other pickings: what turns of the picks (chapter 23). -/
import Derived.Test.YtmlekplbmfengaaDiceSeg
namespace Go.Proofs.Ytmlekplbmfengaa.Sh
open Go
set_option linter.unusedVariables false
set_option linter.unusedSimpArgs false

def scL (k : Int) (l : List Int) : List Int := l.map (fun v => v * k)
def scT (k : Int) (t : Trigger) : Trigger := ⟨t.On, t.Off, t.Peak * k⟩
theorem isum_sc (k : Int) (x : List Int) : isum (scL k x) = isum x * k := by
  induction x with
  | nil => simp [scL, isum]
  | cons v x ih =>
    have : scL k (v :: x) = v * k :: scL k x := rfl
    rw [this]
    simp only [isum, ih, Int.add_mul]
theorem win_sc (k : Int) (x : List Int) (n m : Nat) : win (scL k x) n m = win x n m * k := by
  unfold win
  rw [← isum_sc]
  unfold scL
  rw [List.map_drop, List.map_take]
theorem le_sc {k a b : Int} (hk : 1 ≤ k) : a * k ≤ b * k ↔ a ≤ b :=
  ⟨fun h => Int.le_of_mul_le_mul_right h (by omega), fun h => Int.mul_le_mul_of_nonneg_right h (by omega)⟩
theorem reach_sc {k : Int} (hk : 1 ≤ k) (d : Detector) (s l p : Int) : reach d (s * k) (l * k) p = reach d s l p := by
  unfold reach
  rw [← Int.mul_assoc, ← Int.mul_assoc]
  have h1 : (l * k != 0) = (l != 0) := by
    rw [Bool.eq_iff_iff, bne_iff_ne, bne_iff_ne, Ne, Ne, Int.mul_eq_zero]
    omega
  rw [h1]
  congr 1
  rw [decide_eq_decide]
  exact le_sc hk
theorem getD_sc (k : Int) (x : List Int) (n : Nat) : (scL k x).getD n 0 = x.getD n 0 * k := by
  unfold scL
  simp only [List.getD_eq_getElem?_getD, List.getElem?_map]
  cases x[n]? <;> simp
theorem max_sc {k a b : Int} (hk : 1 ≤ k) : max (a * k) (b * k) = max a b * k := by
  rcases Int.le_total a b with h | h
  · have := (le_sc hk).2 h
    rw [show max a b = b by omega]; omega
  · have := (le_sc hk).2 h
    rw [show max a b = a by omega]; omega
theorem trF_sc {k : Int} (hk : 1 ≤ k) (d : Detector) (x : List Int) : ∀ n, trF d (scL k x) n = (scT k (trF d x n).1, (trF d x n).2.map (scT k))
  | 0 => by simp [trF, scT]
  | n + 1 => by
    have ih := trF_sc hk d x n
    unfold trF
    split
    · exact ih
    · rw [ih]
      unfold trS
      simp only [win_sc, reach_sc hk, getD_sc]
      have e1 : (scT k (trF d x n).1).On = (trF d x n).1.On := rfl
      rw [e1]
      split
      · split <;> simp [scT]
      · split
        · simp only [scT]; rw [max_sc hk]
        · simp [scT]
theorem trAll_sc {k : Int} (hk : 1 ≤ k) (d : Detector) (x : List Int) (n : Nat) : trAll d (scL k x) n = (trAll d x n).map (scT k) := by
  unfold trAll
  rw [trF_sc hk]
  have e1 : (scT k (trF d x n).1).On = (trF d x n).1.On := rfl
  simp only [e1]
  split <;> simp
theorem ab_sc {k v : Int} (hk : 1 ≤ k) : ab (v * k) = ab v * k := by
  unfold ab
  rw [← max_sc hk, Int.sub_mul, Int.zero_mul]
theorem absL_sc {k : Int} (hk : 1 ≤ k) (l : List Int) : absL (scL k l) = scL k (absL l) := by
  unfold absL scL
  rw [List.map_map, List.map_map]
  exact List.map_congr_left fun v _ => ab_sc hk
theorem qB_sc {k : Int} (hk : 1 ≤ k) (p : Picking) (l : List Int) (lg : Int) (i : Nat) : qB p (scL k l) (lg * k) i = qB p l lg i := by
  unfold qB
  rw [getD_sc, ab_sc hk, ← Int.mul_assoc, ← Int.mul_assoc, decide_eq_decide]
  exact le_sc hk
theorem onsV_sc {k : Int} (hk : 1 ≤ k) (p : Picking) (l : List Int) (on : Int) : onsV p (scL k l) on = onsV p l on := by
  unfold onsV lgS
  rw [absL_sc hk, win_sc]
  exact ons_congr fun i _ => qB_sc hk p l _ i
theorem cmpI_sc {k v : Int} (hk : 1 ≤ k) : cmpI (v * k) 0 = cmpI v 0 := by
  have h1 : v * k < 0 ↔ v < 0 := by
    have := le_sc (k := k) (a := 0) (b := v) hk
    rw [Int.zero_mul] at this
    omega
  have h2 : 0 < v * k ↔ 0 < v := by
    have := le_sc (k := k) (a := v) (b := 0) hk
    rw [Int.zero_mul] at this
    omega
  unfold cmpI
  simp only [h1, h2]
/-- a segment with louder samples -/
def scG (k : Int) (g : Segment) : Segment := ⟨g.Start, g.First, g.Rate, g.Error, scL k g.Samples⟩
theorem pickV_sc {k : Int} (hk : 1 ≤ k) (p : Picking) (s : SourceID) (g : Segment) (t : Trigger) : pickV p s (scG k g) (scT k t) = { pickV p s g t with Amplitude := t.Peak * k } := by
  unfold pickV scG scT
  simp only
  rw [onsV_sc hk, getD_sc, cmpI_sc hk]
  rfl
theorem filter_sc {k : Int} (hk : 1 ≤ k) (p : Picking) (hp : p.Floor = 0) (T : List Trigger) (hT : ∀ t ∈ T, 0 ≤ t.Peak) : (T.map (scT k)).filter (loudB p) = (T.filter (loudB p)).map (scT k) := by
  rw [List.filter_map]
  congr 1
  refine List.filter_congr fun t ht => ?_
  have h0 := hT t ht
  have h1 : 0 ≤ t.Peak * k := Int.mul_nonneg h0 (by omega)
  simp only [Function.comp, loudB, scT, hp, decide_eq_true h0, decide_eq_true h1]
theorem tm_mono {g : Segment} (hg : RF (bodyR g)) {i j : Int} (h : i ≤ j) : tmG g i ≤ tmG g j := hg.mono h

/-- equal lists of picks -/
theorem ba_beq (a b : ByteArray) : (a == b) = decide (a = b) := by
  cases a with | mk x => cases b with | mk y =>
  show (x == y) = _
  rw [Bool.eq_iff_iff]; simp
theorem ba_refl (a : ByteArray) : (a == a) = true := by rw [ba_beq, decide_eq_true rfl]
theorem psame (a : List Pick) (ha : a.length ≤ 100000) : ref23_Same a a = some true := by
  unfold ref23_Same
  rw [if_neg (by simp)]
  refine whileM_for' (fun i => (i : Int)) a.length _ rfl (fun i hi => ?_) ?_
  · unfold ref23_Same_l2
    rw [if_pos (decide_eq_true (by omega)), ix_nat _ _ hi]
    simp only [Option.bind_some]
    rw [if_neg (by simp [ba_refl]), w64_id (by omega) (by omega)]; rfl
  · unfold ref23_Same_l2
    rw [if_neg (by simp)]; rfl

end Go.Proofs.Ytmlekplbmfengaa.Sh

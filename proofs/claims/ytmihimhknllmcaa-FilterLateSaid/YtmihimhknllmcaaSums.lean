/- Finite sums of integers. No Go program is named here. -/
import Derived.Test.YtmihimhknllmcaaLibP
namespace Go.Proofs.Ytmihimhknllmcaa.Sh
open Go

def sm (f : Nat → Int) : Nat → Int
  | 0 => 0
  | n + 1 => sm f n + f n

theorem sm_congr {f g : Nat → Int} {n : Nat} (h : ∀ i, i < n → f i = g i) : sm f n = sm g n := by
  induction n with
  | zero => rfl
  | succ n ih => rw [sm, sm, ih fun i hi => h i (by omega), h n (by omega)]
theorem sm_zero {f : Nat → Int} {n : Nat} (h : ∀ i, i < n → f i = 0) : sm f n = 0 := by
  induction n with
  | zero => rfl
  | succ n ih => rw [sm, ih fun i hi => h i (by omega), h n (by omega)]; rfl
theorem sm_add (f g : Nat → Int) (n : Nat) : sm (fun i => f i + g i) n = sm f n + sm g n := by
  induction n with
  | zero => rfl
  | succ n ih => simp only [sm, ih]; omega
theorem sm_mulR (f : Nat → Int) (c : Int) (n : Nat) : sm (fun i => f i * c) n = sm f n * c := by
  induction n with
  | zero => simp [sm]
  | succ n ih => simp only [sm, ih, Int.add_mul]
theorem sm_mulL (f : Nat → Int) (c : Int) (n : Nat) : sm (fun i => c * f i) n = c * sm f n := by
  induction n with
  | zero => simp [sm]
  | succ n ih => simp only [sm, ih, Int.mul_add]
theorem sm_comm (g : Nat → Nat → Int) (m n : Nat) : sm (fun i => sm (fun j => g i j) n) m = sm (fun j => sm (fun i => g i j) m) n := by
  induction m with
  | zero => rw [sm]; exact (sm_zero fun _ _ => rfl).symm
  | succ m ih => simp only [sm, ih]; rw [sm_add]
theorem sm_split (f : Nat → Int) (a b : Nat) : sm f (a + b) = sm f a + sm (fun j => f (a + j)) b := by
  induction b with
  | zero => simp [sm]
  | succ b ih => rw [← Nat.add_assoc, sm, ih, sm]; omega
theorem sm_trunc {f : Nat → Int} {n m : Nat} (h : n ≤ m) (h0 : ∀ i, n ≤ i → i < m → f i = 0) : sm f m = sm f n := by
  obtain ⟨k, rfl⟩ : ∃ k, m = n + k := ⟨m - n, by omega⟩
  rw [sm_split, sm_zero (f := fun j => f (n + j)) (fun j hj => h0 _ (by omega) (by omega))]
  omega
theorem sm_left (f : Nat → Int) (n : Nat) : sm f (n + 1) = f 0 + sm (fun i => f (i + 1)) n := by
  rw [Nat.add_comm, sm_split]
  simp only [sm, Int.zero_add]
  congr 1
  exact sm_congr fun i _ => by rw [Nat.add_comm]
theorem sm_rev (f : Nat → Int) (n : Nat) : sm f (n + 1) = sm (fun i => f (n - i)) (n + 1) := by
  induction n generalizing f with
  | zero => rfl
  | succ n ih =>
    have h1 : sm (fun i => f (n + 1 - i)) (n + 1 + 1) = sm (fun i => f (n + 1 - i)) (n + 1) + f 0 := by
      rw [sm]; simp
    rw [sm_left, ih, h1]
    rw [sm_congr (f := fun i => f (n - i + 1)) (g := fun i => f (n + 1 - i)) (fun i hi => by congr 1; omega)]
    omega
theorem sm_le {f g : Nat → Int} {n : Nat} (h : ∀ i, i < n → f i ≤ g i) : sm f n ≤ sm g n := by
  induction n with
  | zero => exact Int.le_refl _
  | succ n ih =>
    have h1 := ih fun i hi => h i (by omega)
    have h2 := h n (by omega)
    rw [sm, sm]; omega

def iabs (x : Int) : Int := max x (-x)
theorem iabs_nn (x : Int) : 0 ≤ iabs x := by unfold iabs; omega
theorem iabs_add (x y : Int) : iabs (x + y) ≤ iabs x + iabs y := by unfold iabs; omega
theorem iabs_mul (x y : Int) : iabs (x * y) = iabs x * iabs y := by
  unfold iabs
  rcases Int.le_total 0 x with h | h <;> rcases Int.le_total 0 y with k | k
  · have := Int.mul_nonneg h k
    rw [Int.max_eq_left (by omega), Int.max_eq_left (by omega), Int.max_eq_left (by omega)]
  · have := Int.mul_nonpos_of_nonneg_of_nonpos h k
    rw [Int.max_eq_right (by omega), Int.max_eq_left (by omega), Int.max_eq_right (by omega), Int.mul_neg]
  · have := Int.mul_nonpos_of_nonpos_of_nonneg h k
    rw [Int.max_eq_right (by omega), Int.max_eq_right (by omega), Int.max_eq_left (by omega), Int.neg_mul]
  · have := Int.mul_nonneg_of_nonpos_of_nonpos h k
    rw [Int.max_eq_left (by omega), Int.max_eq_right (by omega), Int.max_eq_right (by omega), Int.neg_mul_neg]
theorem iabs_sm (f : Nat → Int) (n : Nat) : iabs (sm f n) ≤ sm (fun i => iabs (f i)) n := by
  induction n with
  | zero => exact Int.le_refl _
  | succ n ih => rw [sm, sm]; have := iabs_add (sm f n) (f n); omega

theorem map_range_set (g : Nat → Int) (n k : Nat) (v : Int) : ((List.range n).map g).set k v = (List.range n).map (fun m => if m = k then v else g m) := by
  apply List.ext_getElem (by simp)
  intro i h1 h2
  rw [List.getElem_set]
  simp only [List.getElem_map, List.getElem_range]
  by_cases h : k = i
  · subst h; simp
  · rw [if_neg h, if_neg (fun e => h e.symm)]
theorem map_range_getD (g : Nat → Int) (n i : Nat) : ((List.range n).map g).getD i 0 = if i < n then g i else 0 := by
  rw [List.getD_eq_getElem?_getD, List.getElem?_map]
  by_cases h : i < n
  · rw [List.getElem?_range h, if_pos h]; rfl
  · rw [if_neg h, List.getElem?_eq_none (by simp; omega)]; rfl

end Go.Proofs.Ytmihimhknllmcaa.Sh

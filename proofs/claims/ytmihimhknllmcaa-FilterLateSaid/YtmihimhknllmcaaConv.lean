/- The convolution of two filters as a plain program. -/
import Derived.Test.YtmihimhknllmcaaFlt2
import Derived.Test.YtmihimhknllmcaaSums
namespace Go.Proofs.Ytmihimhknllmcaa.Sh
open Go
set_option linter.unusedVariables false
set_option linter.unusedSimpArgs false

theorem dot_sm (t b : List Int) (i m : Nat) : dot t b i m = sm (fun j => t.getD j 0 * b.getD (i - j) 0) m := by
  induction m with
  | zero => rfl
  | succ m ih => rw [dot, ih, sm]

theorem asum_sm (l : List Int) : asum l = sm (fun i => iabs (l.getD i 0)) l.length := by
  induction l with
  | nil => rfl
  | cons x l ih =>
    rw [asum, List.length_cons, sm_left, ih]
    rfl

def bget (b : List Int) (m i : Nat) : Int := if i ≤ m then b.getD (m - i) 0 else 0
def cvt (a b : List Int) (m : Nat) : Int := sm (fun i => a.getD i 0 * bget b m i) a.length
def cvs (a b : List Int) : List Int := (List.range (a.length + b.length - 1)).map (cvt a b)

theorem getD_out {l : List Int} {i : Nat} (h : l.length ≤ i) : l.getD i 0 = 0 := by
  rw [List.getD_eq_getElem?_getD, List.getElem?_eq_none h]; rfl
theorem getD_in {l : List Int} {i : Nat} (h : i < l.length) : l.getD i 0 = l[i] := by
  rw [List.getD_eq_getElem?_getD, List.getElem?_eq_getElem h]; rfl

theorem cvt_sym (a b : List Int) (m : Nat) : cvt a b m = sm (fun i => a.getD i 0 * b.getD (m - i) 0) (m + 1) := by
  unfold cvt
  have h1 : sm (fun i => a.getD i 0 * bget b m i) a.length = sm (fun i => a.getD i 0 * bget b m i) (max a.length (m + 1)) :=
    (sm_trunc (by omega) fun i h _ => by rw [getD_out h, Int.zero_mul]).symm
  have h2 : sm (fun i => a.getD i 0 * bget b m i) (max a.length (m + 1)) = sm (fun i => a.getD i 0 * bget b m i) (m + 1) :=
    sm_trunc (by omega) fun i h _ => by unfold bget; rw [if_neg (by omega), Int.mul_zero]
  rw [h1, h2]
  exact sm_congr fun i hi => by unfold bget; rw [if_pos (by omega)]

theorem cvt_comm (a b : List Int) (m : Nat) : cvt a b m = cvt b a m := by
  rw [cvt_sym, cvt_sym, sm_rev]
  exact sm_congr fun i hi => by rw [Int.mul_comm]; congr 2; omega

theorem cvs_comm (a b : List Int) : cvs a b = cvs b a := by
  unfold cvs
  rw [show a.length + b.length - 1 = b.length + a.length - 1 by omega]
  exact List.map_congr_left fun m _ => cvt_comm a b m

/-- a sum over a moved list -/
theorem sm_bget (b : List Int) (i M : Nat) (g : Nat → Int) (h : i + b.length ≤ M) : sm (fun m => bget b m i * g m) M = sm (fun j => b.getD j 0 * g (i + j)) b.length := by
  obtain ⟨k, rfl⟩ : ∃ k, M = i + k := ⟨M - i, by omega⟩
  rw [sm_split, sm_zero (n := i) fun m hm => by unfold bget; rw [if_neg (by omega), Int.zero_mul], Int.zero_add]
  rw [sm_trunc (n := b.length) (by omega) fun j h1 h2 => by unfold bget; rw [if_pos (by omega), Nat.add_sub_cancel_left, getD_out h1, Int.zero_mul]]
  exact sm_congr fun j hj => by unfold bget; rw [if_pos (by omega), Nat.add_sub_cancel_left]

/-- one behind the other -/
theorem dot_conv (a b x : List Int) (n : Nat) (ha : 1 ≤ a.length) (hb : 1 ≤ b.length) : dot (cvs a b) x n (a.length + b.length - 1) = sm (fun j => b.getD j 0 * dot a x (n - j) a.length) b.length := by
  rw [dot_sm]
  have h1 : sm (fun m => (cvs a b).getD m 0 * x.getD (n - m) 0) (a.length + b.length - 1) = sm (fun m => sm (fun i => a.getD i 0 * (bget b m i * x.getD (n - m) 0)) a.length) (a.length + b.length - 1) := by
    refine sm_congr fun m hm => ?_
    unfold cvs
    rw [map_range_getD, if_pos hm, cvt, ← sm_mulR]
    exact sm_congr fun i _ => Int.mul_assoc _ _ _
  rw [h1, sm_comm]
  have h2 : sm (fun i => sm (fun m => a.getD i 0 * (bget b m i * x.getD (n - m) 0)) (a.length + b.length - 1)) a.length = sm (fun i => sm (fun j => b.getD j 0 * (a.getD i 0 * x.getD (n - j - i) 0)) b.length) a.length := by
    refine sm_congr fun i hi => ?_
    rw [sm_mulL, sm_bget b i _ (fun m => x.getD (n - m) 0) (by omega), ← sm_mulL]
    refine sm_congr fun j _ => ?_
    rw [← Int.mul_assoc, Int.mul_comm (a.getD i 0), Int.mul_assoc]
    congr 3
    omega
  rw [h2, sm_comm]
  refine sm_congr fun j _ => ?_
  rw [sm_mulL, dot_sm]

theorem asum_cvs (a b : List Int) (ha : 1 ≤ a.length) (hb : 1 ≤ b.length) : asum (cvs a b) ≤ asum a * asum b := by
  have hl : (cvs a b).length = a.length + b.length - 1 := by simp [cvs]
  rw [asum_sm, hl]
  have h1 : sm (fun m => iabs ((cvs a b).getD m 0)) (a.length + b.length - 1) ≤ sm (fun m => sm (fun i => iabs (a.getD i 0) * (iabs (bget b m i) * 1)) a.length) (a.length + b.length - 1) := by
    refine sm_le fun m hm => ?_
    unfold cvs
    rw [map_range_getD, if_pos hm, cvt]
    have := iabs_sm (fun i => a.getD i 0 * bget b m i) a.length
    have e : sm (fun i => iabs (a.getD i 0 * bget b m i)) a.length = sm (fun i => iabs (a.getD i 0) * (iabs (bget b m i) * 1)) a.length := sm_congr fun i _ => by rw [iabs_mul, Int.mul_one]
    rw [← e]
    exact this
  have h2 : sm (fun m => sm (fun i => iabs (a.getD i 0) * (iabs (bget b m i) * 1)) a.length) (a.length + b.length - 1) = asum a * asum b := by
    rw [sm_comm, asum_sm a, ← sm_mulR]
    refine sm_congr fun i hi => ?_
    rw [sm_mulL]
    congr 1
    have hbg : ∀ m, iabs (bget b m i) = bget (b.map iabs) m i := by
      intro m
      unfold bget
      split
      · simp only [List.getD_eq_getElem?_getD, List.getElem?_map]
        cases b[m - i]? <;> rfl
      · rfl
    rw [sm_congr (fun m _ => by rw [hbg m]), sm_bget _ _ _ (fun _ => 1) (by simp; omega), asum_sm b, List.length_map]
    refine sm_congr fun j hj => ?_
    simp only [List.getD_eq_getElem?_getD, List.getElem?_map, Int.mul_one]
    cases b[j]? <;> rfl
  omega

theorem mem_le_asum (l : List Int) (x : Int) (hx : x ∈ l) : iabs x ≤ asum l := by
  induction l with
  | nil => simp at hx
  | cons y l ih =>
    simp only [asum]
    have := asum_nn l
    unfold iabs at *
    rcases List.mem_cons.1 hx with h | h
    · subst h; omega
    · have := ih h; omega

structure FS (f : Filter) : Prop where
  v : VF f
  l5 : f.Taps.length ≤ 5
  s6 : f.Shift ≤ 6
  f1 : f.Factor = 1

theorem FS.pow {f : Filter} (h : FS f) : (2 : Int) ^ f.Shift.toNat ≤ 64 := by
  have h6 := h.s6
  have h2 : (2 : Nat) ^ f.Shift.toNat ≤ 64 := Nat.pow_le_pow_right (n := 2) (by decide) (show f.Shift.toNat ≤ 6 by omega)
  have h3 : ((2 ^ f.Shift.toNat : Nat) : Int) ≤ ((64 : Nat) : Int) := Int.ofNat_le.2 h2
  rw [Int.natCast_pow] at h3
  exact h3

theorem pow_sum {s t : Int} (hs : 0 ≤ s) (ht : 0 ≤ t) : (2 : Int) ^ (s + t).toNat = 2 ^ s.toNat * 2 ^ t.toNat := by
  rw [Int.toNat_add hs ht, Int.pow_add]

theorem conv_vf {a b : Filter} (ha : FS a) (hb : FS b) : VF ⟨cvs a.Taps b.Taps, 1, a.Shift + b.Shift⟩ := by
  have hl : (cvs a.Taps b.Taps).length = a.Taps.length + b.Taps.length - 1 := by simp [cvs]
  have h1 := ha.v.l1; have h2 := hb.v.l1; have h3 := ha.l5; have h4 := hb.l5
  have s1 := ha.v.s0; have s2 := hb.v.s0; have s3 := ha.s6; have s4 := hb.s6
  have hsum : asum (cvs a.Taps b.Taps) ≤ 2 ^ (a.Shift + b.Shift).toNat := by
    have h5 := asum_cvs a.Taps b.Taps h1 h2
    have h6 : asum a.Taps * asum b.Taps ≤ 2 ^ a.Shift.toNat * 2 ^ b.Shift.toNat := Int.mul_le_mul ha.v.sum hb.v.sum (asum_nn _) (by have := pow_pos' a.Shift.toNat; omega)
    rw [pow_sum s1 s2]
    omega
  refine ⟨by simp only; omega, by simp only; omega, by simp only; omega, by simp only; omega, Int.le_refl _, (by decide : (1 : Int) ≤ 64), fun x hx => ?_, hsum⟩
  have h7 := mem_le_asum _ x hx
  have h8 := pow_le30 (s := a.Shift + b.Shift) (by omega)
  unfold iabs at h7
  simp only at h7
  omega

/-- the loops of Convolve -/
theorem convolve_spec {a b : Filter} (ha : FS a) (hb : FS b) : filter_Convolve a b = some (⟨cvs a.Taps b.Taps, 1, a.Shift + b.Shift⟩, 0) := by
  have h1 := ha.v.l1; have h2 := hb.v.l1; have h3 := ha.l5; have h4 := hb.l5
  have s1 := ha.v.s0; have s2 := hb.v.s0; have s3 := ha.s6; have s4 := hb.s6
  have ta : ∀ i, iabs (a.Taps.getD i 0) ≤ 64 := fun i => by
    by_cases hi : i < a.Taps.length
    · rw [getD_in hi]
      have := mem_le_asum a.Taps _ (List.getElem_mem hi)
      have := ha.v.sum; have := ha.pow
      omega
    · rw [getD_out (by omega)]; decide
  have tb : ∀ i, iabs (b.Taps.getD i 0) ≤ 64 := fun i => by
    by_cases hi : i < b.Taps.length
    · rw [getD_in hi]
      have := mem_le_asum b.Taps _ (List.getElem_mem hi)
      have := hb.v.sum; have := hb.pow
      omega
    · rw [getD_out (by omega)]; decide
  have tab : ∀ i j, iabs (a.Taps.getD i 0 * b.Taps.getD j 0) ≤ 4096 := fun i j => by
    rw [iabs_mul]
    have := Int.mul_le_mul (ta i) (tb j) (iabs_nn _) (by decide)
    omega
  have tbg : ∀ m i, iabs (a.Taps.getD i 0 * bget b.Taps m i) ≤ 4096 := fun m i => by
    unfold bget
    split
    · exact tab _ _
    · simp [iabs]
  have tp : ∀ m k, k ≤ 5 → iabs (sm (fun i => a.Taps.getD i 0 * bget b.Taps m i) k) ≤ 4096 * k := fun m k _ => by
    induction k with
    | zero => simp [sm, iabs]
    | succ k ih =>
      have := ih (by omega)
      rw [sm]
      have h5 := iabs_add (sm (fun i => a.Taps.getD i 0 * bget b.Taps m i) k) (a.Taps.getD k 0 * bget b.Taps m k)
      have h6 := tbg m k
      push_cast
      omega
  unfold filter_Convolve
  rw [valid_true ha.v, valid_true hb.v]
  simp only [Option.bind, Bool.not_true, Bool.false_eq_true, if_false, ha.f1, hb.f1, bne_self_eq_false, Bool.or_self]
  obtain ⟨n, hn⟩ : ∃ n, a.Taps.length + b.Taps.length - 1 = n := ⟨_, rfl⟩
  rw [w64_id (x := (a.Taps.length : Int) + b.Taps.length) (by omega) (by omega), w64_id (by omega) (by omega), makeM_at _ _ _ (by omega) (by omega) (by decide)]
  have en : ((a.Taps.length : Int) + b.Taps.length - 1).toNat = n := by omega
  simp only [en, List.length_replicate]
  rw [w64_id (x := a.Shift + b.Shift) (by omega) (by omega)]
  rw [if_neg (by simp; omega)]
  have hw : whileM (filter_Convolve_l5 a b) (List.replicate n 0, 0) = some (cvs a.Taps b.Taps) := by
    refine whileM_for' (fun i => ((List.range n).map (fun m => sm (fun i => a.Taps.getD i 0 * bget b.Taps m i) i), (i : Int))) a.Taps.length _ ?_ (fun i hi => ?_) ?_
    · simp only [sm, List.map_const', List.length_range]; rfl
    · unfold filter_Convolve_l5
      simp only
      rw [if_pos (decide_eq_true (by omega)), ix_nat _ _ hi]
      simp only [Option.bind]
      have hin : whileM (filter_Convolve_l9 b ((List.range n).map (fun m => sm (fun i => a.Taps.getD i 0 * bget b.Taps m i) i), (i : Int)) a.Taps[i]) ((List.range n).map (fun m => sm (fun i => a.Taps.getD i 0 * bget b.Taps m i) i), 0) = some ((List.range n).map (fun m => sm (fun i => a.Taps.getD i 0 * bget b.Taps m i) (i + 1))) := by
        refine whileM_for' (fun j => ((List.range n).map (fun m => sm (fun i => a.Taps.getD i 0 * bget b.Taps m i) i + if i ≤ m ∧ m - i < j then a.Taps.getD i 0 * b.Taps.getD (m - i) 0 else 0), (j : Int))) b.Taps.length _ ?_ (fun j hj => ?_) ?_
        · simp
        · unfold filter_Convolve_l9
          simp only
          rw [if_pos (decide_eq_true (by omega)), ix_nat _ _ hj]
          simp only [Option.bind]
          have eij : w64 ((i : Int) + j) = ((i + j : Nat) : Int) := by rw [w64_id (by omega) (by omega)]; omega
          rw [eij, ix_nat _ _ (by simp; omega)]
          simp only [List.getElem_map, List.getElem_range]
          rw [setM_at _ _ _ (by omega) (by simp; omega)]
          have hz : ¬ (i ≤ i + j ∧ i + j - i < j) := by omega
          rw [if_neg hz, ← getD_in hi, ← getD_in hj]
          have h5 := tab i j
          have h6 := tp (i + j) i (by omega)
          unfold iabs at h5 h6
          rw [w64_id (x := a.Taps.getD i 0 * b.Taps.getD j 0) (by omega) (by omega), w64_id (x := _ + a.Taps.getD i 0 * b.Taps.getD j 0) (by omega) (by omega), w64_id (x := (j : Int) + 1) (by omega) (by omega)]
          simp only [Int.toNat_natCast]
          rw [map_range_set]
          congr 3
          apply List.map_congr_left
          intro m hm
          by_cases hmk : m = i + j
          · subst hmk
            rw [if_pos rfl, if_pos (by omega), Nat.add_sub_cancel_left]
            omega
          · rw [if_neg hmk]
            congr 1
            by_cases hc : i ≤ m ∧ m - i < j
            · rw [if_pos hc, if_pos (by omega)]
            · rw [if_neg hc, if_neg (by omega)]
        · unfold filter_Convolve_l9
          simp only
          rw [if_neg (by simp)]
          congr 2
          apply List.map_congr_left
          intro m hm
          rw [sm]
          congr 1
          unfold bget
          by_cases hc : i ≤ m
          · rw [if_pos hc]
            by_cases hc2 : m - i < b.Taps.length
            · rw [if_pos ⟨hc, hc2⟩]
            · rw [if_neg (by omega), getD_out (show b.Taps.length ≤ m - i by omega), Int.mul_zero]
          · rw [if_neg (by omega), if_neg hc, Int.mul_zero]
      rw [hin]
      simp only
      rw [w64_id (by omega) (by omega)]
      rfl
    · unfold filter_Convolve_l5
      simp only
      rw [if_neg (by simp)]
      unfold cvs cvt
      rw [hn]
  rw [hw]

theorem rvalid_true {f : Filter} (h : VF f) : ref21_Valid f = some true := by
  obtain ⟨l1, l2, s0, s1, f0, f1, tap, sum⟩ := h
  have hB := asum_le f.Taps 1073741824 (by decide) tap
  unfold ref21_Valid
  have c1 : decide ((1 : Int) ≤ f.Taps.length) = true := decide_eq_true (by omega)
  have c2 : decide ((f.Taps.length : Int) ≤ 128) = true := decide_eq_true (by omega)
  simp only [ref01_In, c1, c2, s0, s1, f0, f1, decide_true, Bool.and_true, Bool.not_true, Option.bind, Bool.false_eq_true, if_false]
  refine whileM_for' (fun i => (asum (f.Taps.take i), (i : Int))) f.Taps.length _ (by simp [asum]) (fun i hi => ?_) ?_
  · have hx := tap f.Taps[i] (List.getElem_mem _)
    have hs := asum_take_le f.Taps (i + 1)
    rw [take_one hi, asum_append] at hs
    simp only [asum] at hs
    have hnn := asum_nn (f.Taps.take i)
    simp only [ref21_Valid_l2]
    rw [if_pos (decide_eq_true (by omega)), ix_nat _ _ hi]
    simp only [Option.bind, ref01_In, hx.1, hx.2, decide_true, Bool.and_true, Bool.not_true, Bool.false_eq_true, if_false]
    rw [take_one hi, asum_append]
    simp only [asum]
    rw [w64_id (x := 0 - f.Taps[i]) (by omega) (by omega), w64_id (by omega) (by omega), w64_id (by omega) (by omega)]
    congr 3 <;> omega
  · simp only [ref21_Valid_l2]
    have e1 : shlM .i64 1 (IntKind.u64.wrap f.Shift) = some (2 ^ f.Shift.toNat) := by
      have := pow_le30 s1
      have := pow_pos' f.Shift.toNat
      rw [u64_id s0 (by omega), shlM_at _ _ s0 (by omega), Int.one_mul, w64_id (by omega) (by omega)]
    rw [if_neg (by simp), e1]
    simp only [Option.bind, Option.map, List.take_length]
    rw [decide_eq_true sum]

theorem rsame_refl (f : Filter) (h : f.Taps.length ≤ 1000000000) : ref21_Same f f = some true := by
  unfold ref21_Same
  rw [same_spec _ _ h]
  simp

/-- floors of floors are off by one at most -/
theorem near_floor (V1 V2 : Int) (h1 : 1 ≤ V1) (h2 : 1 ≤ V2) (C Q R : Int) (hC : C = V1 * Q + R) (hR1 : -(V2 * (V1 - 1)) ≤ R) (hR2 : R ≤ V2 * (V1 - 1)) :
    -1 ≤ C.fdiv (V1 * V2) - Q.fdiv V2 ∧ C.fdiv (V1 * V2) - Q.fdiv V2 ≤ 1 ∧ (V1 = 1 → V2 = 1 → C.fdiv (V1 * V2) - Q.fdiv V2 = 0) := by
  have hV : 0 < V1 * V2 := Int.mul_pos (by omega) (by omega)
  rw [Int.fdiv_eq_ediv_of_nonneg _ (by omega), Int.fdiv_eq_ediv_of_nonneg _ (by omega)]
  have e1 := Int.mul_ediv_add_emod C (V1 * V2)
  have e2 := Int.emod_nonneg C (show V1 * V2 ≠ 0 by omega)
  have e3 := Int.emod_lt_of_pos C hV
  have e4 := Int.mul_ediv_add_emod Q V2
  have e5 := Int.emod_nonneg Q (show V2 ≠ 0 by omega)
  have e6 := Int.emod_lt_of_pos Q (show 0 < V2 by omega)
  generalize C / (V1 * V2) = r at *
  generalize C % (V1 * V2) = u at *
  generalize Q / V2 = q at *
  generalize Q % V2 = v at *
  subst hC
  -- V1 V2 (r - q) = V1 v + R - u
  have key : V1 * V2 * (r - q) = V1 * v + R - u := by
    rw [Int.mul_sub, ← e4] at *
    have : V1 * (V2 * q + v) = V1 * V2 * q + V1 * v := by rw [Int.mul_add, Int.mul_assoc]
    omega
  have b1 : 0 ≤ V1 * v := Int.mul_nonneg (by omega) e5
  have b2 : V1 * v ≤ V1 * (V2 - 1) := Int.mul_le_mul_of_nonneg_left (by omega) (by omega)
  rw [Int.mul_sub, Int.mul_one] at b2
  have b3 : V2 * (V1 - 1) = V1 * V2 - V2 := by rw [Int.mul_sub, Int.mul_one, Int.mul_comm]
  rw [b3] at hR1 hR2
  generalize hW : V1 * V2 = W at *
  generalize hd : r - q = d at *
  refine ⟨?_, ?_, ?_⟩
  · refine Int.le_of_lt_add_one ?_
    refine Int.lt_of_not_ge fun hc => ?_
    have : W * d ≤ W * (-2) := Int.mul_le_mul_of_nonneg_left (by omega) (by omega)
    omega
  · refine Int.le_of_lt_add_one ?_
    refine Int.lt_of_not_ge fun hc => ?_
    have : W * 2 ≤ W * d := Int.mul_le_mul_of_nonneg_left (by omega) (by omega)
    omega
  · intro hv1 hv2
    subst hv1 hv2
    have : W = 1 := by omega
    subst this
    omega

end Go.Proofs.Ytmihimhknllmcaa.Sh

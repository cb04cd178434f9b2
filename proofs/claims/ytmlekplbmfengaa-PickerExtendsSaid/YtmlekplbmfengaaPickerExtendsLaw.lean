/- The law PickerExtends as a plain program: it is true at every input. -/
import Derived.Test.YtmlekplbmfengaaLevels
import Derived.Test.YtmlekplbmfengaaPickSort
namespace Go.Proofs.Ytmlekplbmfengaa.Sh
open Go
set_option linter.unusedVariables false
set_option linter.unusedSimpArgs false

theorem getD_take {l : List Int} {n k : Nat} (h : n < k) : (l.take k).getD n 0 = l.getD n 0 := by
  simp only [List.getD_eq_getElem?_getD, List.getElem?_take, if_pos h]
theorem win_take (x : List Int) {n k m : Nat} (h : n ≤ k) : win (x.take k) n m = win x n m := by
  unfold win
  rw [List.take_take, Nat.min_eq_left h]
theorem trF_take (d : Detector) (x : List Int) (k : Nat) : ∀ n, n ≤ k → trF d (x.take k) n = trF d x n
  | 0, _ => rfl
  | n + 1, h => by
    unfold trF
    rw [trF_take d x k n (by omega)]
    unfold trS
    rw [win_take x h, win_take x h, getD_take (by omega)]
theorem trS_more (d : Detector) (x : List Int) (n : Nat) (s : Trigger × List Trigger) : ∃ r, (trS d x n s).2 = s.2 ++ r := by
  unfold trS
  split
  · split
    · exact ⟨[], by simp⟩
    · exact ⟨[], by simp⟩
  · split
    · exact ⟨[], by simp⟩
    · exact ⟨_, rfl⟩
theorem trF_succ (d : Detector) (x : List Int) (n : Nat) : trF d x (n + 1) = if n + 1 < d.Long.toNat then trF d x n else trS d x n (trF d x n) := rfl
theorem trF_more (d : Detector) (x : List Int) (n : Nat) : ∀ m, ∃ r, (trF d x (n + m)).2 = (trF d x n).2 ++ r
  | 0 => ⟨[], by simp⟩
  | m + 1 => by
    obtain ⟨r, hr⟩ := trF_more d x n m
    rw [← Nat.add_assoc, trF_succ]
    split
    · exact ⟨r, hr⟩
    · obtain ⟨q, hq⟩ := trS_more d x (n + m) (trF d x (n + m))
      rw [hq, hr, List.append_assoc]
      exact ⟨_, rfl⟩
theorem trAll_loud {p : Picking} (hp : PV p) {x : List Int} (hx : XV x) : (trAll p.Detector x x.length).filter (loudB p) = (trF p.Detector x x.length).2.filter (loudB p) := by
  have h := (TI.all hp.d hx x.length (Nat.le_refl _)).op
  unfold trAll
  split
  · next h0 =>
    rw [List.filter_append]
    have : loudB p (trF p.Detector x x.length).1 = false := by
      rcases h with h | h
      · rw [h] at h0; exact absurd h0 (by decide)
      · unfold loudB; rw [h.2.2.1]; rfl
    rw [List.filter_cons_of_neg (by rw [this]; decide)]
    simp
  · rfl
theorem onsV_take (p : Picking) (l : List Int) {k : Nat} {on : Int} (h0 : 0 ≤ on) (h : on < k) : onsV p (l.take k) on = onsV p l on := by
  have e : lgS p.Detector (l.take k) on = lgS p.Detector l on := by
    unfold lgS
    rw [show absL (l.take k) = (absL l).take k from List.map_take, win_take _ (by omega)]
  unfold onsV
  rw [e]
  refine ons_congr fun j hj => ?_
  unfold qB
  rw [getD_take (by omega)]
def partG (k : Nat) (g : Segment) : Segment := ⟨g.Start, g.First, g.Rate, g.Error, g.Samples.take k⟩
def moveG (b : Int) (g : Segment) : Segment := ⟨g.Start + b, g.First, g.Rate, g.Error, g.Samples⟩
theorem pickV_part {p : Picking} (hp : PV p) (s : SourceID) (g : Segment) {k : Nat} {t : Trigger} (h0 : 0 ≤ t.On) (h : t.On < k) : pickV p s (partG k g) t = pickV p s g t := by
  have hb := onsV_bd hp (l := g.Samples) h0
  have e : onsV p (partG k g).Samples t.On = onsV p g.Samples t.On := onsV_take p g.Samples h0 h
  unfold pickV
  rw [e]
  have e2 : (partG k g).Samples.getD (onsV p g.Samples t.On) 0 = g.Samples.getD (onsV p g.Samples t.On) 0 := getD_take (by omega)
  rw [e2]
  rfl
theorem tm_ge {g : Segment} (hG : RF (bodyR g)) {i : Int} (i0 : 0 ≤ i) : g.Start ≤ tmG g i := by
  have h0 := hG.rv.n0
  have h1 := hG.rv.d0
  have f0 : 0 ≤ g.First := hG.f0
  unfold tmG timeR
  have : 0 ≤ ((bodyR g).First + i) * ((bodyR g).Rate.Den * 1000000) / (bodyR g).Rate.Num := Int.ediv_nonneg (Int.mul_nonneg (by show 0 ≤ g.First + i; omega) (by omega)) (by omega)
  show g.Start ≤ g.Start + _
  omega
theorem tm_move (b : Int) (g : Segment) (i : Int) : tmG (moveG b g) i = tmG g i + b := by
  unfold tmG timeR
  show g.Start + b + _ = g.Start + _ + b
  rw [Int.add_right_comm]
  rfl
theorem law23_PickerExtends_true (t : List Int) (n by' : Int) (_ : (t.length : Int) ≤ 140737488355328 ∧ ∀ x ∈ t, -9223372036854775808 ≤ x ∧ x ≤ 9223372036854775807) (hn : 0 ≤ n ∧ n ≤ 255) (hb : 0 ≤ by' ∧ by' ≤ 65535) : law23_PickerExtends t n by' = some true := by
  unfold law23_PickerExtends
  rw [light_spec]
  simp only [Option.bind_some]
  by_cases hl : t.length ≤ 500
  case neg => rw [decide_eq_false hl, sane_true]; rfl
  rw [decide_eq_true hl]
  simp only [Bool.not_true, Bool.false_eq_true, if_false, made_Roll, Option.bind_some]
  obtain ⟨p, d1, e1, hp, hd1⟩ := dpicking_spec (DOK.roll hl)
  obtain ⟨s, d2, e2, hs, hd2⟩ := dsource_spec hd1
  obtain ⟨g, d3, e3, hg, hd3⟩ := dsegment_spec hd2 (n := 60) (by decide) (by decide)
  have hP := hp.pv
  have hG := hg.rf
  obtain ⟨w1, w2, w3⟩ := hg.wv
  have s0 := hg.s0
  have s1 := hg.s1
  have q1 := hP.d.s1; have q2 := hP.d.sl
  rw [e1]; simp only [Option.bind_some]
  rw [e2]; simp only [Option.bind_some]
  rw [e3]; simp only [Option.bind_some]
  have hsm : ∀ v ∈ g.Samples, -1073741823 ≤ v ∧ v ≤ 1073741823 := fun v hv => by have := w3 v hv; omega
  have hX := absL_XV hsm
  rw [w64_id (x := n) (by omega) (by omega), w64_id (x := by') (by omega) (by omega), w64_id (x := g.Start + by') (by omega) (by omega), remM_at _ _ (by omega)]
  simp only [Option.bind_some]
  rw [Int.tmod_eq_emod_of_nonneg hn.1]
  have r0 : 0 ≤ n % (g.Samples.length : Int) := Int.emod_nonneg _ (by omega)
  have r1 : n % (g.Samples.length : Int) < g.Samples.length := Int.emod_lt_of_pos _ (by omega)
  rw [w64_id (by omega) (by omega)]
  obtain ⟨k, hk⟩ := Int.eq_ofNat_of_zero_le (show 0 ≤ 1 + n % (g.Samples.length : Int) by omega)
  rw [hk]
  have k0 : 1 ≤ k := by omega
  have k1 : k ≤ g.Samples.length := by omega
  have hsub : subM g.Samples 0 ((k : Nat) : Int) = some (g.Samples.take k) := by
    have := sub_at g.Samples 0 k (Nat.zero_le _) k1
    simpa using this
  rw [hsub]
  simp only [Option.bind_some]
  rw [show (⟨g.Start, g.First, g.Rate, g.Error, g.Samples.take k⟩ : Segment) = partG k g from rfl, show (⟨g.Start + by', g.First, g.Rate, g.Error, g.Samples⟩ : Segment) = moveG by' g from rfl]
  have hlk : (g.Samples.take k).length = k := by rw [List.length_take]; omega
  have hGp : RF (bodyR (partG k g)) := seg_rf (g := partG k g) (n := 60) (by decide) hG.s0 (by simp only [partG]; omega) hG.f0 hg.f1 hG.rv hg.dn hG.e0 hg.er (by simp only [partG]; omega) (by simp only [partG]; omega) (fun v hv => hsm v (List.mem_of_mem_take hv))
  have hGm : RF (bodyR (moveG by' g)) := seg_rf (g := moveG by' g) (n := 60) (by decide) (by simp only [moveG]; omega) (by simp only [moveG]; omega) hG.f0 hg.f1 hG.rv hg.dn hG.e0 hg.er (by simp only [moveG]; omega) (by simp only [moveG]; omega) hsm
  -- the picks
  have hT := TI.all hP.d hX
  obtain ⟨A, hA⟩ : ∃ A, (trF p.Detector (absL g.Samples) k).2.filter (loudB p) = A := ⟨_, rfl⟩
  obtain ⟨B, hB⟩ : ∃ B, (trF p.Detector (absL g.Samples) g.Samples.length).2.filter (loudB p) = B := ⟨_, rfl⟩
  have hBm : ∀ x ∈ B, 0 ≤ x.On ∧ x.On < g.Samples.length := fun x hx => by
    rw [← hB] at hx
    have := (hT g.Samples.length (by rw [absL_len]; exact Nat.le_refl _)).en x (List.mem_filter.1 hx).1
    omega
  have hAm : ∀ x ∈ A, 0 ≤ x.On ∧ x.On < k := fun x hx => by
    rw [← hA] at hx
    have := (hT k (by rw [absL_len]; exact k1)).en x (List.mem_filter.1 hx).1
    omega
  have hAB : ∃ R, B = A ++ R := by
    obtain ⟨r, hr⟩ := trF_more p.Detector (absL g.Samples) k (g.Samples.length - k)
    rw [show k + (g.Samples.length - k) = g.Samples.length by omega] at hr
    refine ⟨r.filter (loudB p), ?_⟩
    rw [← hB, hr, List.filter_append, hA]
  have hBl : B.length ≤ 60 := by
    have := (hT g.Samples.length (by rw [absL_len]; exact Nat.le_refl _)).len
    have h2 : B.length ≤ (trF p.Detector (absL g.Samples) g.Samples.length).2.length := by rw [← hB]; exact List.length_filter_le _ _
    omega
  have ea : segV p s (partG k g) = A.map (pickV p s g) := by
    have hXp : XV (absL (g.Samples.take k)) := absL_XV fun v hv => hsm v (List.mem_of_mem_take hv)
    have h1 := trAll_loud hP hXp
    rw [absL_len, hlk, show absL (g.Samples.take k) = (absL g.Samples).take k from List.map_take, trF_take _ _ _ _ (Nat.le_refl _), hA] at h1
    show ((trAll p.Detector (absL (g.Samples.take k)) (g.Samples.take k).length).filter (loudB p)).map (pickV p s (partG k g)) = _
    rw [hlk, show absL (g.Samples.take k) = (absL g.Samples).take k from List.map_take, h1]
    exact List.map_congr_left fun x hx => pickV_part hP s g (hAm x hx).1 (hAm x hx).2
  have hbase : (trAll p.Detector (absL g.Samples) g.Samples.length).filter (loudB p) = B := by
    have h1 := trAll_loud hP hX
    rw [absL_len, hB] at h1
    exact h1
  have eb : segV p s g = B.map (pickV p s g) := by unfold segV; rw [hbase]
  have ec : segV p s (moveG by' g) = B.map (pickV p s (moveG by' g)) := by
    show ((trAll p.Detector (absL g.Samples) g.Samples.length).filter (loudB p)).map (pickV p s (moveG by' g)) = _
    rw [hbase]
  have hps : (partG k g).Samples.length = k := hlk
  have hms : (moveG by' g).Samples.length = g.Samples.length := rfl
  rw [Segment_ok hP hs hGp (by omega), Segment_ok hP hs hG (by omega), Segment_ok hP hs hGm (by omega)]
  rw [Run_ok hP hs (l := [moveG by' g, partG k g]) (by simp) (fun x hx => by
    simp only [List.mem_cons, List.not_mem_nil, or_false] at hx
    rcases hx with rfl | rfl
    · exact ⟨hGm, by omega⟩
    · exact ⟨hGp, by omega⟩)]
  simp only [Option.bind_some, bne_self_eq_false, Bool.false_or]
  have esv : segsV p s [moveG by' g, partG k g] = segV p s (moveG by' g) ++ segV p s (partG k g) := by simp [segsV]
  obtain ⟨R, hR⟩ := hAB
  have hAl : A.length ≤ B.length := by rw [hR, List.length_append]; omega
  rw [esv, ea, eb, ec]
  simp only [List.length_map, bne_self_eq_false, Bool.or_false]
  rw [if_neg (show ¬ decide ((B.length : Int) < (A.length : Int)) = true by simp; omega)]
  rw [appM_one _ _ _ (by simp; omega) (by decide)]
  simp only [Option.bind_some, List.nil_append]
  rw [appM_one _ _ _ (by simp; omega) (by decide)]
  simp only [Option.bind_some]
  rw [picker_Sort_eq (by simp; omega), sset_ext cmpP_cmp cmpP_eq (l := B.map (pickV p s (moveG by' g)) ++ A.map (pickV p s g)) (m := A.map (pickV p s g) ++ B.map (pickV p s (moveG by' g))) (fun x => by simp only [List.mem_append]; exact Or.comm)]
  simp only [Option.bind_some]
  rw [psame _ (by
    have := sset_len cmpP (A.map (pickV p s g) ++ B.map (pickV p s (moveG by' g)))
    simp only [List.length_append, List.length_map] at this
    omega)]
  simp only [Option.bind_some, Bool.not_true, Bool.false_eq_true, if_false]
  refine whileM_for' (fun i => (i : Int)) B.length _ rfl (fun i hi => ?_) ?_
  · have hx := hBm _ (List.getElem_mem hi)
    have er0 : 0 ≤ g.Error := hG.e0
    have er1 := hg.er
    unfold law23_PickerExtends_l2
    simp only [List.length_map]
    rw [if_pos (decide_eq_true (by omega)), ix_nat (B.map (pickV p s g)) i (by simpa using hi), ix_nat (B.map (pickV p s (moveG by' g))) i (by simpa using hi)]
    simp only [Option.bind_some, List.getElem_map]
    have hfirst : ∀ f : Bool → Option (Int ⊕ Bool), ((if decide ((i : Int) < (A.length : Int)) = true then (ix (A.map (pickV p s g)) (i : Int)).bind fun x635 => some (!(eqP x635 (pickV p s g B[i]))) else some false).bind f) = f false := by
      intro f
      by_cases hia : i < A.length
      · rw [if_pos (decide_eq_true (by omega)), ix_nat _ _ (by simpa using hia)]
        have : A[i] = B[i] := by
          have : B[i]? = A[i]? := by rw [hR, List.getElem?_append_left hia]
          rw [some_at hi, some_at hia] at this
          exact (Option.some.inj this).symm
        simp only [Option.bind_some, List.getElem_map]
        rw [this, (eqP_iff _ _).2 rfl]; rfl
      · rw [if_neg (by simp; omega)]; rfl
    refine (hfirst _).trans ?_
    obtain ⟨x, hxe⟩ : ∃ x, B[i] = x := ⟨_, rfl⟩
    rw [hxe] at hx ⊢
    have hob := onsV_bd hP (l := g.Samples) (on := x.On) hx.1
    obtain ⟨m, hm⟩ : ∃ m, onsV p g.Samples x.On = m := ⟨_, rfl⟩
    rw [hm] at hob
    have t1 := tm_bd hG (i := max ((m : Int) - 1) 0) (by omega) (by omega)
    have t2 := tm_bd hG (i := (m : Int)) (by omega) (by omega)
    have t3 := tm_bd hG (i := x.On) (by omega) (by omega)
    have m1 := tm_ge hG (i := max ((m : Int) - 1) 0) (by omega)
    have ep : pickV p s g x = ⟨s, tmG g m, tmG g (max ((m : Int) - 1) 0) - g.Error, tmG g x.On + g.Error, x.Peak, cmpI (g.Samples.getD m 0) 0⟩ := by
      unfold pickV
      rw [hm, show max 0 (tmG g (max ((m : Int) - 1) 0) - g.Error) = tmG g (max ((m : Int) - 1) 0) - g.Error by omega, show min (tmG g x.On + g.Error) (18014398509481984 : Int) = tmG g x.On + g.Error by omega]
    have em : pickV p s (moveG by' g) x = ⟨s, tmG g m + by', tmG g (max ((m : Int) - 1) 0) - g.Error + by', tmG g x.On + g.Error + by', x.Peak, cmpI (g.Samples.getD m 0) 0⟩ := by
      unfold pickV
      rw [show (moveG by' g).Samples = g.Samples from rfl, show (moveG by' g).Error = g.Error from rfl, hm, tm_move, tm_move, tm_move, show max 0 (tmG g (max ((m : Int) - 1) 0) + by' - g.Error) = tmG g (max ((m : Int) - 1) 0) - g.Error + by' by omega, show min (tmG g x.On + by' + g.Error) (18014398509481984 : Int) = tmG g x.On + g.Error + by' by omega]
    rw [ep, em]
    simp only [Bool.false_eq_true, if_false]
    rw [w64_id (x := by') (by omega) (by omega), show tmG g (m : Int) + by' - by' = tmG g (m : Int) by omega, show tmG g (max ((m : Int) - 1) 0) - g.Error + by' - by' = tmG g (max ((m : Int) - 1) 0) - g.Error by omega, show tmG g x.On + g.Error + by' - by' = tmG g x.On + g.Error by omega,
      w64_id (x := tmG g (m : Int)) (by omega) (by omega), w64_id (x := tmG g (max ((m : Int) - 1) 0) - g.Error) (by omega) (by omega), w64_id (x := tmG g x.On + g.Error) (by omega) (by omega), w64_id (x := (i : Int) + 1) (by omega) (by omega)]
    simp only [beq_self_eq_true, ba_refl, Bool.and_self, Bool.not_true, Bool.false_eq_true, if_false]
    rfl
  · unfold law23_PickerExtends_l2
    simp only [List.length_map]
    rw [if_neg (by simp), sane_true]
    rfl

end Go.Proofs.Ytmlekplbmfengaa.Sh

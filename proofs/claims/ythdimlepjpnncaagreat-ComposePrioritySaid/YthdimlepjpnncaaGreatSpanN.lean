/- The valid list of a list of spans, as the code makes it and as the reference makes it (chapter 8). -/
import Derived.Test.YthdimlepjpnncaaGreatSpanT
import Derived.Test.YthdimlepjpnncaaGreatSortK
namespace Go.Proofs.YthdimlepjpnncaaGreat.Sh
open Go
set_option linter.unusedVariables false
set_option linter.unusedSimpArgs false

theorem sclone (s : List Span) (h : s.length ≤ 1000000) : slices_Clone_Lapi_Span_api_Span s = some s := by
  unfold slices_Clone_Lapi_Span_api_Span
  rw [appM_one _ _ _ (by simpa using h) (by decide)]
  rfl
theorem sindex_spec (p : Span → Bool) (f : Span → Option Bool) (hf : ∀ x, f x = some (p x)) (l : List Span) (hl : l.length ≤ 1000000) :
    ∃ r, slices_IndexFunc_Lapi_Span_api_Span l f = some r ∧ ((r = -1 ∧ ∀ s ∈ l, p s = false) ∨ ∃ i : Nat, ∃ h : i < l.length, r = (i : Int) ∧ p l[i] = true ∧ ∀ s ∈ l.take i, p s = false) := by
  unfold slices_IndexFunc_Lapi_Span_api_Span
  refine loop_foldE (fun (_ : Unit) i => i) l.length (fun i _ => ∀ s ∈ l.take i, p s = false) _ (fun i hi a hI => ?_) (fun a hI => ?_) () (by simp)
  · unfold slices_IndexFunc_Lapi_Span_api_Span_l2
    rw [if_pos (decide_eq_true (by omega)), ix_nat _ _ hi]
    simp only [Option.bind_some]
    rw [hf]
    simp only [Option.bind_some]
    cases hp : p l[i] with
    | true => exact .inr ⟨_, rfl, .inr ⟨i, hi, rfl, hp, hI⟩⟩
    | false =>
      left
      refine ⟨(), by rw [w64_n (by omega)]; rfl, fun s hs => ?_⟩
      rw [take_one hi] at hs
      rcases List.mem_append.1 hs with hs | hs
      · exact hI s hs
      · rcases List.mem_singleton.1 hs with rfl; exact hp
  · unfold slices_IndexFunc_Lapi_Span_api_Span_l2
    rw [if_neg (by simp)]
    rw [List.take_of_length_le (Nat.le_refl _)] at hI
    exact ⟨_, rfl, .inl ⟨rfl, hI⟩⟩
theorem sdelete_spec (p : Span → Bool) (f : Span → Option Bool) (hf : ∀ x, f x = some (p x)) (l : List Span) (hl : l.length ≤ 1000000) : slices_DeleteFunc_Lapi_Span_api_Span l f = some (l.filter (fun x => !p x)) := by
  unfold slices_DeleteFunc_Lapi_Span_api_Span
  obtain ⟨r, er, hr⟩ := sindex_spec p f hf l hl
  rw [er]
  simp only [Option.bind_some]
  rcases hr with ⟨rfl, hall⟩ | ⟨i0, hi0, rfl, hp0, hall⟩
  · rw [if_pos (by decide), List.filter_eq_self.2 (fun a ha => by rw [hall a ha]; rfl)]
  · rw [if_neg (by simp <;> omega), w64_n (by omega)]
    obtain ⟨⟨m, e2⟩, em, i, he, h1, h2, h3⟩ := loop_ex (b1 := slices_DeleteFunc_Lapi_Span_api_Span_l1 f)
      (fun k s => ∃ i j : Nat, s.2.1 = (i : Int) ∧ s.2.2 = (j : Int) ∧ k + j = l.length ∧ i < j ∧ s.1.length = l.length ∧ s.1.take i = (l.take j).filter (fun x => !p x) ∧ s.1.drop j = l.drop j)
      (fun r => ∃ i : Nat, r.2 = (i : Int) ∧ i ≤ l.length ∧ r.1.length = l.length ∧ r.1.take i = l.filter (fun x => !p x)) (by
        rintro k ⟨m, i', j'⟩ ⟨i, j, hi, hj, hk, hij, hml, ht, hd⟩
        simp only at hi hj hml ht hd
        subst hi
        subst hj
        unfold slices_DeleteFunc_Lapi_Span_api_Span_l1
        simp only
        by_cases hjl : j < l.length
        · left
          have hmj : m[j]'(by omega) = l[j] := by
            have h1 : m[j]? = l[j]? := by
              have := congrArg (fun q => q[0]?) hd
              simpa [List.getElem?_drop] using this
            rw [some_at (by omega), some_at hjl] at h1
            exact Option.some.inj h1
          rw [if_pos (decide_eq_true (by omega)), ix_nat m j (by omega), hmj]
          simp only [Option.bind_some]
          rw [hf]
          simp only [Option.bind_some]
          unfold slices_DeleteFunc_Lapi_Span_api_Span_j1
          simp only
          rw [w64_n (n := j) (by omega)]
          have htk : (l.take (j + 1)).filter (fun x => !p x) = (l.take j).filter (fun x => !p x) ++ [l[j]].filter (fun x => !p x) := by rw [take_one hjl, List.filter_append]
          have hdj : l.drop (j + 1) = (l.drop j).drop 1 := by rw [List.drop_drop]
          have hmd : m.drop (j + 1) = (m.drop j).drop 1 := by rw [List.drop_drop]
          cases hp : p l[j] with
          | true =>
            rw [if_neg (by simp)]
            refine ⟨_, k - 1, rfl, ⟨i, j + 1, rfl, rfl, by omega, by omega, hml, ?_, ?_⟩, by omega⟩
            · rw [htk, ht]; simp [hp]
            · simp only; rw [hdj, hmd, hd]
          | false =>
            rw [if_pos (by simp), ix_nat m i (by omega)]
            simp only [Option.bind_some]
            rw [setM_at _ _ _ (by omega) (by omega), w64_n (n := i) (by omega)]
            simp only [Option.bind_some, Int.toNat_natCast]
            refine ⟨_, k - 1, rfl, ⟨i + 1, j + 1, rfl, rfl, by omega, by omega, by simpa using hml, ?_, ?_⟩, by omega⟩
            · simp only
              rw [htk, ← ht, take_one (by simp; omega), List.take_set_of_le (Nat.le_refl _)]
              simp [hp]
            · simp only
              rw [List.drop_set_of_lt (by omega), hdj, hmd, hd]
        · right
          rw [if_neg (by simp; omega)]
          refine ⟨_, rfl, i, rfl, by omega, hml, ?_⟩
          rw [List.take_of_length_le (show l.length ≤ j by omega)] at ht
          exact ht) (l.length - (i0 + 1)) (l, (i0 : Int), ((i0 + 1 : Nat) : Int)) ⟨i0, i0 + 1, rfl, rfl, by omega, by omega, rfl, by
          simp only
          rw [take_one hi0, List.filter_append, List.filter_eq_self.2 (fun a ha => by rw [hall a ha]; rfl)]
          simp [hp0], rfl⟩
    rw [em]
    simp only at he h2 h3
    subst he
    simp only [Option.bind_some]
    have hsub : subM m (i : Int) (m.length : Int) = some (m.drop i) := by
      rw [sub_at _ _ _ (by omega) (Nat.le_refl _), List.take_of_length_le (Nat.le_refl _)]
    rw [hsub]
    simp only [Option.bind_some]
    have hcl : (copyM m (i : Int) (m.length : Int) (List.replicate (m.drop i).length (⟨0, 0⟩ : Span))).take i = m.take i := by
      unfold copyM
      simp only [Int.toNat_natCast]
      rw [List.append_assoc, List.take_append_of_le_length (by rw [List.length_take]; omega), List.take_take, Nat.min_self]
    have hlen : i ≤ (copyM m (i : Int) (m.length : Int) (List.replicate (m.drop i).length (⟨0, 0⟩ : Span))).length := by
      unfold copyM
      simp only [Int.toNat_natCast, List.length_append, List.length_take]
      omega
    have h0 := sub_at (copyM m (i : Int) (m.length : Int) (List.replicate (m.drop i).length (⟨0, 0⟩ : Span))) 0 i (Nat.zero_le _) hlen
    rw [hcl] at h0
    have h0' : subM (copyM m (i : Int) (m.length : Int) (List.replicate (m.drop i).length (⟨0, 0⟩ : Span))) 0 (i : Int) = some (m.take i) := by
      simpa using h0
    rw [h0', h3]
    rfl

theorem compare_int (x y : Int) : cmp_Compare_int x y = some (if x < y then -1 else if y < x then 1 else 0) := by
  unfold cmp_Compare_int cmp_isNaN_int
  simp only [bne_self_eq_false, Option.bind_some, Bool.false_eq_true, if_false]
  by_cases h1 : x < y
  · simp [h1]
  · by_cases h2 : y < x <;> simp [h1, h2]
theorem from_ok : CmpOK (fun _ => True) span_Normal_fn2 (fun x y => decide (x.From < y.From)) := by
  refine ⟨fun x y _ _ => ?_, fun x _ => by simp, fun x y z _ _ _ h1 h2 => ?_, fun x y z _ _ _ h1 h2 => ?_⟩
  · unfold span_Normal_fn2
    rw [compare_int]
    refine ⟨_, rfl, ?_⟩
    by_cases h1 : x.From < y.From
    · simp [h1]
    · by_cases h2 : y.From < x.From <;> simp [h1, h2]
  · simp only [decide_eq_true_eq] at *; omega
  · simp only [decide_eq_false_iff_not] at *; omega
theorem sort_span (l : List Span) (f : Span → Span → Option Int) : slices_SortFunc_Lapi_Span_api_Span l f = sortP l f := rfl
theorem SR.pw {l : List Span} (h : SR (fun x y => decide (x.From < y.From)) 0 l.length l) : l.Pairwise (fun s t => s.From ≤ t.From) := by
  rw [List.pairwise_iff_getElem]
  intro i j hi hj hij
  have := h i j _ _ (Nat.zero_le _) hij hj (some_at hi) (some_at hj)
  simp only [decide_eq_false_iff_not] at this
  omega

theorem merge_body {srt out : List Span} {i : Nat} (hi : i < srt.length) (ho : out.length ≤ 100000) (hl : srt.length ≤ 100000) :
    span_Normal_l1 srt (out, (i : Int)) = some (.inl (mstep out srt[i], ((i + 1 : Nat) : Int))) := by
  unfold span_Normal_l1
  simp only
  rw [if_pos (decide_eq_true (by omega)), ix_nat _ _ hi]
  simp only [Option.bind_some]
  unfold span_Normal_j1
  simp only
  rw [w64_n (n := i) (by omega)]
  rcases List.eq_nil_or_concat out with rfl | ⟨o, t, rfl⟩
  · rw [mstep_nil]
    simp only [List.length_nil]
    rw [if_neg (by decide)]
    simp only [Option.bind_some, Bool.false_eq_true, if_false]
    rw [appM_one _ _ _ (by simp) (by decide)]
    rfl
  · rw [List.concat_eq_append] at *
    have hlen : (((o ++ [t]).length : Nat) : Int) = (o.length : Int) + 1 := by simp
    have e1 : w64 (((o ++ [t]).length : Int) - 1) = (o.length : Int) := by rw [hlen, w64_id (by omega) (by omega)]; omega
    rw [if_pos (decide_eq_true (by rw [hlen]; omega)), e1, ix_last]
    simp only [Option.bind_some]
    rw [mstep_snoc]
    by_cases hc : srt[i].From ≤ t.To
    · rw [if_pos (decide_eq_true hc), if_pos hc, setM_last]
      rfl
    · rw [if_neg (by simpa using hc), if_neg hc, appM_one _ _ _ (by simp at ho ⊢; omega) (by decide)]
      rfl
theorem merge_loop {srt : List Span} (hl : srt.length ≤ 100000) (hne : ∀ s ∈ srt, s.From < s.To) (hs : srt.Pairwise (fun s t => s.From ≤ t.From)) :
    ∃ r, whileM (span_Normal_l1 srt) ([], 0) = some r ∧ MI srt srt.length r :=
  loop_fold (fun a i => (a, i)) srt.length (fun i out => MI srt i out) (fun r => MI srt srt.length r) (fun i hi a h => by
    have := h.len
    exact ⟨_, merge_body hi (by omega) hl, h.step hi hne hs⟩) (fun a h => by
    unfold span_Normal_l1
    simp only
    rw [if_neg (by simp)]
    exact ⟨_, rfl, h⟩) [] MI.zero

/-- a valid list of the numbers of l -/
structure NS (l r : List Span) : Prop where
  vs : VS r
  mem : ∀ y, Mem r y ↔ Mem l y
  len : r.length ≤ l.length
  ends : ∀ s ∈ r, (∃ t ∈ l, s.From = t.From) ∧ (∃ t ∈ l, s.To = t.To)
theorem NS.of {l f srt r : List Span} (hf : f = l.filter (fun s => decide (s.From < s.To))) (hp : srt.Perm f) (h : MI srt srt.length r) : NS l r := by
  have hsub : ∀ s ∈ srt, s ∈ l := fun s hs => (List.mem_filter.1 (hf ▸ hp.mem_iff.1 hs)).1
  refine ⟨h.vs, fun y => ?_, ?_, fun s hs => ?_⟩
  · rw [h.mem, List.take_of_length_le (Nat.le_refl _), mem_perm hp, hf, mem_filter]
  · have h1 := h.len
    rw [hp.length_eq, hf] at h1
    exact Nat.le_trans h1 (List.length_filter_le _ _)
  · obtain ⟨⟨t, ht, e⟩, ⟨u, hu, e'⟩⟩ := h.ends s hs
    exact ⟨⟨t, hsub t ht, e⟩, ⟨u, hsub u hu, e'⟩⟩

theorem normal_spec {l : List Span} (hl : l.length < 100000) : ∃ r, span_Normal l = some r ∧ NS l r := by
  unfold span_Normal
  rw [sclone _ (by omega)]
  simp only [Option.bind_some]
  rw [sdelete_spec (fun s => !(decide (s.From < s.To))) span_Normal_fn1 (fun x => rfl) l (by omega)]
  simp only [Option.bind_some, Bool.not_not]
  have hfl : (l.filter (fun s => decide (s.From < s.To))).length ≤ l.length := List.length_filter_le _ _
  obtain ⟨srt, es, hp, hln, hsr⟩ := sort_spec from_ok (l := l.filter (fun s => decide (s.From < s.To))) (fun _ _ => trivial) (by omega)
  rw [sort_span, es]
  simp only [Option.bind_some]
  rw [← hln] at hsr
  obtain ⟨r, er, hr⟩ := merge_loop (srt := srt) (by omega) (fun s hs => by simpa using (List.mem_filter.1 (hp.mem_iff.1 hs)).2) hsr.pw
  rw [er]
  exact ⟨r, rfl, NS.of rfl hp hr⟩

/-! ### the reference -/
theorem rmerge_body {srt out : List Span} {i : Nat} (hi : i < srt.length) (ho : out.length ≤ 100000) (hl : srt.length ≤ 100000) :
    ref08_Normal_l7 srt (out, (i : Int)) = some (.inl (mstep out srt[i], ((i + 1 : Nat) : Int))) := by
  unfold ref08_Normal_l7
  simp only
  rw [if_pos (decide_eq_true (by omega))]
  simp only [Option.bind_some]
  unfold ref08_Normal_j4
  simp only
  rw [w64_n (n := i) (by omega)]
  rcases List.eq_nil_or_concat out with rfl | ⟨o, t, rfl⟩
  · rw [mstep_nil]
    simp only [List.length_nil]
    rw [if_neg (by decide)]
    simp only [Option.bind_some, Bool.false_eq_true, if_false]
    rw [ix_nat _ _ hi]
    simp only [Option.bind_some]
    rw [appM_one _ _ _ (by simp) (by decide)]
    rfl
  · rw [List.concat_eq_append] at *
    have hlen : (((o ++ [t]).length : Nat) : Int) = (o.length : Int) + 1 := by simp
    have e1 : w64 (((o ++ [t]).length : Int) - 1) = (o.length : Int) := by rw [hlen, w64_id (by omega) (by omega)]; omega
    rw [if_pos (decide_eq_true (by rw [hlen]; omega)), e1, ix_last, ix_nat _ _ hi]
    simp only [Option.bind_some]
    rw [mstep_snoc]
    by_cases hc : srt[i].From ≤ t.To
    · rw [if_pos (decide_eq_true hc), if_pos hc, setM_last]
      rfl
    · rw [if_neg (by simpa using hc), if_neg hc, appM_one _ _ _ (by simp at ho ⊢; omega) (by decide)]
      rfl
theorem rmerge_loop {srt : List Span} (hl : srt.length ≤ 100000) (hne : ∀ s ∈ srt, s.From < s.To) (hs : srt.Pairwise (fun s t => s.From ≤ t.From)) :
    ∃ r, whileM (ref08_Normal_l7 srt) ([], 0) = some r ∧ MI srt srt.length r :=
  loop_fold (fun a i => (a, i)) srt.length (fun i out => MI srt i out) (fun r => MI srt srt.length r) (fun i hi a h => by
    have := h.len
    exact ⟨_, rmerge_body hi (by omega) hl, h.step hi hne hs⟩) (fun a h => by
    unfold ref08_Normal_l7
    simp only
    rw [if_neg (by simp)]
    exact ⟨_, rfl, h⟩) [] MI.zero
/-- where one more goes -/
theorem rplace {l s : List Span} {i : Nat} (hi : i < l.length) (hs : s.Pairwise (fun s t => s.From ≤ t.From)) (hl : s.length ≤ 100000) :
    ∃ e : Nat, whileM (ref08_Normal_l6 l (s, (i : Int))) (s.length : Int) = some (e : Int) ∧ e ≤ s.length ∧ (∀ t ∈ s.take e, t.From ≤ l[i].From) ∧ (∀ t ∈ s.drop e, l[i].From ≤ t.From) := by
  obtain ⟨r, er, e, he, h⟩ := loop_ex (b1 := ref08_Normal_l6 l (s, (i : Int)))
    (fun k q => ∃ e : Nat, q = (e : Int) ∧ k = e ∧ e ≤ s.length ∧ (∀ t ∈ s.drop e, l[i].From ≤ t.From))
    (fun r => ∃ e : Nat, r = (e : Int) ∧ e ≤ s.length ∧ (∀ t ∈ s.take e, t.From ≤ l[i].From) ∧ (∀ t ∈ s.drop e, l[i].From ≤ t.From)) (by
      rintro k q ⟨e, rfl, hk, h1, h2⟩
      unfold ref08_Normal_l6
      simp only
      by_cases h0 : 0 < e
      · have e1 : w64 ((e : Int) - 1) = ((e - 1 : Nat) : Int) := w64_nat (by omega) (by omega)
        rw [if_pos (decide_eq_true (by omega)), e1, ix_nat s (e - 1) (by omega), ix_nat _ _ hi]
        simp only [Option.bind_some]
        by_cases hc : l[i].From < s[e - 1].From
        · left
          rw [if_pos (decide_eq_true hc)]
          refine ⟨_, k - 1, rfl, ⟨e - 1, rfl, by omega, by omega, fun t ht => ?_⟩, by omega⟩
          rw [List.drop_eq_getElem_cons (by omega), show e - 1 + 1 = e by omega] at ht
          rcases List.mem_cons.1 ht with rfl | ht
          · omega
          · exact h2 t ht
        · right
          rw [if_neg (by simpa using hc)]
          refine ⟨_, rfl, e, rfl, h1, fun t ht => ?_, h2⟩
          rw [show e = e - 1 + 1 by omega, take_one (by omega)] at ht
          rcases List.mem_append.1 ht with ht | ht
          · obtain ⟨j, hj⟩ := List.mem_iff_getElem?.1 ht
            rw [List.getElem?_take] at hj
            split at hj
            · next hlt =>
              obtain ⟨hjl, hj'⟩ := at_some hj
              have := List.pairwise_iff_getElem.1 hs j (e - 1) hjl (by omega) hlt
              rw [hj'] at this
              omega
            · cases hj
          · rcases List.mem_singleton.1 ht with rfl; omega
      · right
        rw [if_neg (by simp; omega)]
        simp only [Option.bind_some, Bool.false_eq_true, if_false]
        have : e = 0 := by omega
        subst this
        exact ⟨_, rfl, 0, rfl, h1, by simp, h2⟩) s.length (s.length : Int) ⟨s.length, rfl, rfl, Nat.le_refl _, by simp⟩
  subst he
  exact ⟨e, er, h⟩
theorem rinsert {s : List Span} {x : Span} {e : Nat} (he : e ≤ s.length) (hl : s.length ≤ 100000) :
    subM (s ++ [x]) ((e + 1 : Nat) : Int) ((s ++ [x]).length : Int) = some (s.drop (e + 1) ++ [x].drop (e + 1 - s.length)) ∧ subM (s ++ [x]) (e : Int) ((s ++ [x]).length : Int) = some (s.drop e ++ [x]) ∧
    ∃ q, q = copyM (s ++ [x]) ((e + 1 : Nat) : Int) ((s ++ [x]).length : Int) (s.drop e ++ [x]) ∧ e < q.length ∧ q.set e x = s.take e ++ ([x] ++ s.drop e) := by
  have hlen : (s ++ [x]).length = s.length + 1 := by simp
  refine ⟨?_, ?_, _, rfl, ?_, ?_⟩
  · rw [sub_at _ _ _ (by omega) (Nat.le_refl _), List.take_of_length_le (Nat.le_refl _), List.drop_append]
  · rw [sub_at _ _ _ (by omega) (Nat.le_refl _), List.take_of_length_le (Nat.le_refl _), List.drop_append_of_le_length he]
  · unfold copyM
    simp only [Int.toNat_natCast, List.length_append, List.length_take, List.length_drop, List.length_cons, List.length_nil]
    omega
  · unfold copyM
    simp only [Int.toNat_natCast]
    have e1 : (s.drop e ++ [x]).take ((s ++ [x]).length - (e + 1)) = s.drop e := by
      rw [hlen, List.take_append_of_le_length (by rw [List.length_drop]; omega), List.take_of_length_le (by rw [List.length_drop]; omega)]
    have e2 : (s ++ [x]).drop (e + 1 + min (s.drop e ++ [x]).length ((s ++ [x]).length - (e + 1))) = [] := by
      apply List.drop_eq_nil_of_le
      simp only [List.length_append, List.length_drop, List.length_cons, List.length_nil]
      omega
    rw [e1, e2, List.append_nil]
    have e3 : (s ++ [x]).take (e + 1) = s.take e ++ [(s ++ [x])[e]'(by omega)] := by
      rw [take_one (by omega), List.take_append_of_le_length he]
    rw [e3, List.append_assoc, List.set_append, if_neg (by rw [List.length_take]; omega)]
    have : e - (s.take e).length = 0 := by rw [List.length_take]; omega
    rw [this]
    rfl
theorem rnormal_spec {l : List Span} (hl : l.length ≤ 100000) : ∃ r, ref08_Normal l = some r ∧ NS l r := by
  obtain ⟨srt, es, hpw, hp⟩ := loop_fold (body := ref08_Normal_l3 l) (fun a i => (a, i)) l.length
    (fun i s => s.Pairwise (fun s t => s.From ≤ t.From) ∧ s.Perm ((l.take i).filter (fun s => decide (s.From < s.To))))
    (fun s => s.Pairwise (fun s t => s.From ≤ t.From) ∧ s.Perm (l.filter (fun s => decide (s.From < s.To)))) (fun i hi s ⟨h1, h2⟩ => by
      have hsl : s.length ≤ i := by
        rw [h2.length_eq]
        exact Nat.le_trans (List.length_filter_le _ _) (by rw [List.length_take]; omega)
      unfold ref08_Normal_l3
      simp only
      unfold ref08_Normal_j1
      simp only
      rw [if_pos (decide_eq_true (by omega)), ix_nat _ _ hi, w64_n (n := i) (by omega)]
      simp only [Option.bind_some]
      by_cases hc : l[i].To ≤ l[i].From
      · rw [if_pos (decide_eq_true hc)]
        refine ⟨s, rfl, h1, ?_⟩
        rw [take_one hi, List.filter_append]
        have : ¬ l[i].From < l[i].To := by omega
        simpa [this] using h2
      · rw [if_neg (by simpa using hc)]
        obtain ⟨e, ee, he, ha, hb⟩ := rplace hi h1 (by omega)
        rw [ee]
        simp only [Option.bind_some]
        rw [appM_one _ _ _ (by simp; omega) (by decide), w64_n (n := e) (by omega)]
        simp only [Option.bind_some]
        obtain ⟨q1, q2, q, eq, hq, hset⟩ := rinsert (s := s) (x := l[i]) he (by omega)
        rw [q1, q2]
        simp only [Option.bind_some]
        rw [← eq, ix_nat _ _ hq]
        simp only [Option.bind_some]
        rw [setM_at _ _ _ (by omega) (by omega), Int.toNat_natCast, hset]
        refine ⟨_, rfl, ?_, ?_⟩
        · rw [List.pairwise_append, List.pairwise_append]
          refine ⟨h1.sublist (List.take_sublist _ _), ⟨List.pairwise_singleton _ _, h1.sublist (List.drop_sublist _ _), fun a ha' b hb' => ?_⟩, fun a ha' b hb' => ?_⟩
          · rcases List.mem_singleton.1 ha' with rfl
            exact hb b hb'
          · rcases List.mem_append.1 hb' with hb' | hb'
            · rcases List.mem_singleton.1 hb' with rfl
              exact ha a ha'
            · obtain ⟨j, hj⟩ := List.mem_iff_getElem?.1 ha'
              obtain ⟨k, hk⟩ := List.mem_iff_getElem?.1 hb'
              have h3 := ha a ha'
              have h4 := hb b hb'
              omega
        · have h3 : (s.take e ++ ([l[i]] ++ s.drop e)).Perm (s ++ [l[i]]) := by
            have h4 : (s.take e ++ ([l[i]] ++ s.drop e)).Perm (s.take e ++ (s.drop e ++ [l[i]])) := List.Perm.append_left _ List.perm_append_comm
            rw [← List.append_assoc (s.take e) (s.drop e), List.take_append_drop] at h4
            exact h4
          refine h3.trans ?_
          rw [take_one hi, List.filter_append]
          have : l[i].From < l[i].To := by omega
          have e1 : [l[i]].filter (fun s => decide (s.From < s.To)) = [l[i]] := by simp [this]
          rw [e1]
          exact List.Perm.append_right _ h2) (fun s ⟨h1, h2⟩ => by
      unfold ref08_Normal_l3
      simp only
      rw [if_neg (by simp)]
      rw [List.take_of_length_le (Nat.le_refl _)] at h2
      exact ⟨s, rfl, h1, h2⟩) [] ⟨List.Pairwise.nil, by simp⟩
  have hsl : srt.length ≤ l.length := by
    rw [hp.length_eq]; exact List.length_filter_le _ _
  unfold ref08_Normal
  rw [es]
  simp only [Option.bind_some]
  obtain ⟨r, er, hr⟩ := rmerge_loop (srt := srt) (by omega) (fun s hs => by simpa using (List.mem_filter.1 (hp.mem_iff.1 hs)).2) hpw
  rw [er]
  exact ⟨r, rfl, NS.of rfl hp hr⟩

theorem NS.uniq {l r s : List Span} (h1 : NS l r) (h2 : NS l s) : r = s := h1.vs.uniq h2.vs (fun x => (h1.mem x).trans (h2.mem x).symm)
theorem NS.self {l r : List Span} (h : NS l r) (hv : VS l) : r = l := h.vs.uniq hv h.mem

end Go.Proofs.YthdimlepjpnncaaGreat.Sh

/- The reference's responses as plain programs (chapter 18): which stages and responses are valid, on both sides. -/
import Derived.Test.YtoendkojgjobbaaRate18
import Derived.Test.YtoendkojgjobbaaSim
namespace Go.Proofs.Ytoendkojgjobbaa.Sh
open Go
set_option linter.unusedVariables false
set_option linter.unusedSimpArgs false

theorem rsp_in_eq (n lo hi : Int) : response_in n lo hi = some (inB n lo hi) := rfl
theorem ref_in_eq (n lo hi : Int) : ref01_In n lo hi = some (inB n lo hi) := rfl
def tB (x : Int) : Bool := inB x (-1048576) 1048576
theorem terms_eq {l : List Int} (hl : l.length ≤ 1000000) : response_terms l = some (l.all tB) := by
  unfold response_terms
  rw [contains_spec (fun x => !tB x) response_terms_fn1 (fun x => rfl) l (by omega), List.all_eq_not_any_not]
  rfl
theorem rterms_eq {l : List Int} (hl : l.length ≤ 1000000) : ref18_terms l = some (l.all tB) := by
  unfold ref18_terms
  have step : ∀ i : Nat, (hi : i < l.length) → ref18_terms_l2 l (i : Int) = some (if tB l[i] = true then .inl ((i + 1 : Nat) : Int) else .inr false) := fun i hi => by
    unfold ref18_terms_l2
    rw [if_pos (decide_eq_true (by omega)), ix_nat _ _ hi]
    simp only [Option.bind, ref_in_eq]
    have e : inB l[i] (-1048576) 1048576 = tB l[i] := rfl
    rw [e]
    cases tB l[i] with
    | true => simp only [Bool.not_true, Bool.false_eq_true, if_false, if_true]; rw [w64_id (by omega) (by omega)]; rfl
    | false => rfl
  have h := loop_all (body := ref18_terms_l2 l) l.length (fun i => if h : i < l.length then tB l[i] else true) false true
    (fun i hi hp => by rw [step i hi]; simp only [hi, dif_pos] at hp; rw [hp]; rfl)
    (fun i hi hp => by rw [step i hi]; simp only [hi, dif_pos] at hp; rw [hp]; rfl)
    (by unfold ref18_terms_l2; rw [if_neg (by simp)]; rfl)
  rw [h, range_all l tB _ (fun i hi => by simp [hi])]
  cases l.all tB <;> rfl
theorem total_eq (l : List Int) : ref18_total l = response_sum l := rfl
theorem sum_ex {l : List Int} (hl : l.length ≤ 1000000) : ∃ v, response_sum l = some v := by
  obtain ⟨r, e, _⟩ := loop_ex (b1 := response_sum_l1 l) (fun k s => ∃ i : Nat, s.2 = (i : Int) ∧ k + i = l.length) (fun _ => True) (fun k s ⟨i, hi, hk⟩ => by
    obtain ⟨n, j⟩ := s
    simp only at hi
    subst hi
    unfold response_sum_l1
    by_cases h : i < l.length
    · left
      refine ⟨(w64 (n + l[i]), ((i + 1 : Nat) : Int)), k - 1, ?_, ⟨i + 1, rfl, by omega⟩, by omega⟩
      simp only
      rw [if_pos (decide_eq_true (by omega)), ix_nat _ _ h]
      simp only [Option.bind]
      rw [w64_id (x := (i : Int) + 1) (by omega) (by omega)]; rfl
    · right
      refine ⟨n, ?_, trivial⟩
      simp only
      rw [if_neg (by simp; omega)]) l.length (0, 0) ⟨0, rfl, rfl⟩
  exact ⟨r, by unfold response_sum; rw [e]; rfl⟩
theorem iteB (c x : Bool) : (if c = true then some x else some false) = some (c && x) := by cases c <;> rfl
theorem all3 (a b c : Int) : [a, b, c].all tB = (tB a && (tB b && tB c)) := by simp
theorem tB_iff {x : Int} : tB x = true ↔ -1048576 ≤ x ∧ x ≤ 1048576 := inB_iff
theorem len0 {l : List Int} : ((l.length : Int) == 0) = true ↔ l = [] := by
  rw [beq_iff_eq, ← List.length_eq_zero_iff]; omega
theorem vst {s : Stage} (hl : s.Taps.length ≤ 1000) : ∃ b, response_ValidStage s = some b ∧ ref18_ValidStage s = some b ∧ (b = true ↔ SG s) := by
  obtain ⟨v, hv⟩ := sum_ex (l := s.Taps) (by omega)
  unfold response_ValidStage ref18_ValidStage
  simp only [rsp_in_eq, ref_in_eq, terms_eq (l := s.Taps) (by omega), rterms_eq (l := s.Taps) (by omega), terms_eq (l := [s.Num.e0, s.Num.e1, s.Num.e2]) (by simp), terms_eq (l := [s.Den.e0, s.Den.e1, s.Den.e2]) (by simp), rterms_eq (l := [s.Num.e0, s.Num.e1, s.Num.e2]) (by simp), rterms_eq (l := [s.Den.e0, s.Den.e1, s.Den.e2]) (by simp), total_eq, hv, Option.bind_some, iteB, all3]
  by_cases k0 : s.Kind = 0
  · have e0 : (s.Kind == 0) = true := by simpa using k0
    simp only [e0, if_true]
    refine ⟨_, rfl, ?_, ?_⟩
    · congr 1
      rw [Bool.eq_iff_iff]
      simp only [Bool.and_eq_true, beq_iff_eq, inB_iff]
      constructor <;> (intro h; simp_all)
    · simp only [Bool.and_eq_true, beq_iff_eq, inB_iff, and_true]
      constructor
      · intro h
        exact .inl ⟨k0, List.eq_nil_of_length_eq_zero (by omega), by omega, by omega, by omega, by omega, by omega, by omega, by omega⟩
      · rintro (h | h | h)
        · have h1 := h.t; have h2 := h.f; have h3 := h.h; have h4 := h.n0; have h5 := h.n1; have h6 := h.d0; have h7 := h.d1; have h8 := h.z
          simp_all
        · have := h.k; omega
        · have := h.k; omega
  · have e0 : (s.Kind == 0) = false := by simpa using k0
    by_cases k1 : s.Kind = 1
    · have e1 : (s.Kind == 1) = true := by simpa using k1
      simp only [e0, e1, if_true, Bool.false_eq_true, if_false]
      refine ⟨_, rfl, rfl, ?_⟩
      simp only [Bool.and_eq_true, beq_iff_eq, bne_iff_ne, tB_iff]
      constructor
      · intro h
        exact .inr (.inl ⟨k1, List.eq_nil_of_length_eq_zero (by omega), by omega, by omega, by omega, by omega, by omega, by omega, by omega, by omega, by omega⟩)
      · rintro (h | h | h)
        · have := h.k; omega
        · have h1 := h.t; have h2 := h.f; have h3 := h.h; have h4 := h.a0; have h5 := h.a1; have h6 := h.a2; have h7 := h.b0; have h8 := h.b1; have h9 := h.b2; have h10 := h.ne
          simp_all
        · have := h.k; omega
    · have e1 : (s.Kind == 1) = false := by simpa using k1
      by_cases k2 : s.Kind = 2
      · have e2 : (s.Kind == 2) = true := by simpa using k2
        simp only [e0, e1, e2, if_true, Bool.false_eq_true, if_false, Bool.true_and]
        refine ⟨_, rfl, rfl, ?_⟩
        simp only [Bool.and_eq_true, beq_iff_eq, bne_iff_ne, inB_iff, and_true, List.all_eq_true, tB_iff]
        constructor
        · intro h
          obtain ⟨⟨⟨⟨⟨⟨h1, h2⟩, h3⟩, h4⟩, h5⟩, h6⟩, h7⟩ := h
          rw [rsum_spec (by omega) h4] at hv
          have hv := Option.some.inj hv
          subst hv
          obtain ⟨K, ⟨n0, n1, n2⟩, ⟨d0, d1, d2⟩, T, F, H⟩ := s
          simp only at h1 h2 h3 h4 h5 h6 h7
          obtain ⟨rfl, rfl, rfl⟩ := h1
          obtain ⟨rfl, rfl, rfl⟩ := h2
          exact .inr (.inr ⟨k2, rfl, rfl, by simp only; omega, by simp only; omega, h4, h5, h6.1, h6.2, h7.1, h7.2⟩)
        · rintro (h | h | h)
          · have := h.k; omega
          · have := h.k; omega
          · have l1 := h.l1
            rw [rsum_spec (by omega) h.tap] at hv
            have hv := Option.some.inj hv
            subst hv
            have l0 := h.l0
            refine ⟨⟨⟨⟨⟨⟨?_, ?_⟩, ?_⟩, h.tap⟩, h.ne⟩, h.f0, h.f1⟩, h.s0, h.s1⟩
            · rw [h.num]; simp
            · rw [h.den]; simp
            · omega
      · have e2 : (s.Kind == 2) = false := by simpa using k2
        simp only [e0, e1, e2, Bool.false_eq_true, if_false, Bool.false_and]
        refine ⟨_, rfl, rfl, ?_⟩
        constructor
        · intro h; cases h
        · rintro (h | h | h)
          · have := h.k; omega
          · have := h.k; omega
          · have := h.k; omega

/-- does some stage answer yes -/
theorem scontains_ex (f : Stage → Option Bool) (l : List Stage) (hl : l.length ≤ 1000000) (h : ∀ s ∈ l, ∃ b, f s = some b) : ∃ c, slices_ContainsFunc_Lapi_Stage_api_Stage l f = some c ∧ (c = true ↔ ∃ s ∈ l, f s = some true) := by
  unfold slices_ContainsFunc_Lapi_Stage_api_Stage slices_IndexFunc_Lapi_Stage_api_Stage
  obtain ⟨r, e, hr⟩ := loop_ex (b1 := slices_IndexFunc_Lapi_Stage_api_Stage_l2 l f) (fun k s => ∃ i : Nat, s = (i : Int) ∧ k + i = l.length ∧ ∀ x ∈ l.take i, f x = some false)
    (fun r => (0 ≤ r ∧ ∃ s ∈ l, f s = some true) ∨ (r = -1 ∧ ∀ s ∈ l, f s = some false)) (fun k s ⟨i, hi, hk, hall⟩ => by
    subst hi
    unfold slices_IndexFunc_Lapi_Stage_api_Stage_l2
    by_cases hil : i < l.length
    · obtain ⟨b, hb⟩ := h _ (List.getElem_mem hil)
      rw [if_pos (decide_eq_true (by omega)), ix_nat _ _ hil]
      simp only [Option.bind, hb]
      cases b with
      | true => exact .inr ⟨_, rfl, .inl ⟨by omega, _, List.getElem_mem hil, hb⟩⟩
      | false =>
        refine .inl ⟨((i + 1 : Nat) : Int), k - 1, ?_, ⟨i + 1, rfl, by omega, fun x hx => ?_⟩, by omega⟩
        · simp only [Bool.false_eq_true, if_false]; rw [w64_id (by omega) (by omega)]; rfl
        · rw [take_one hil] at hx
          rcases List.mem_append.1 hx with hx | hx
          · exact hall x hx
          · rcases List.mem_singleton.1 hx with rfl; exact hb
    · rw [if_neg (by simp; omega)]
      rw [List.take_of_length_le (by omega)] at hall
      exact .inr ⟨_, rfl, .inr ⟨rfl, hall⟩⟩) l.length 0 ⟨0, rfl, rfl, by simp⟩
  rw [e]
  refine ⟨decide (0 ≤ r), rfl, ?_⟩
  rcases hr with ⟨h0, hs⟩ | ⟨rfl, hs⟩
  · exact ⟨fun _ => hs, fun _ => decide_eq_true h0⟩
  · refine ⟨fun h => by simp at h, fun ⟨s, hm, hf⟩ => ?_⟩
    rw [hs s hm] at hf; cases hf

/-- a response that is valid -/
def RP (l : List Stage) : Prop := (∀ s ∈ l, SG s) ∧ l.length ≤ 8 ∧ fac l ≤ 64
theorem cvalid {l : List Stage} (hl : l.length ≤ 1000) (ht : ∀ s ∈ l, s.Taps.length ≤ 1000) : ∃ b, response_Valid ⟨l⟩ = some b ∧ (b = true ↔ RP l) := by
  by_cases hs : ∀ s ∈ l, SG s
  · refine ⟨_, rvalid_spec (by omega) hs, ?_⟩
    rw [decide_eq_true_iff]
    exact ⟨fun h => ⟨hs, h⟩, fun h => h.2⟩
  · unfold response_Valid
    have hn : ¬ RP l := fun h => hs h.1
    by_cases h8 : (8 : Int) < (l.length : Int)
    · refine ⟨false, ?_, ⟨fun h => (by cases h), fun h => absurd h hn⟩⟩
      simp only
      rw [decide_eq_true h8]; rfl
    · obtain ⟨c, hc, hi⟩ := scontains_ex response_Valid_fn1 l (by omega) (fun s hm => by
        obtain ⟨b, h1, _⟩ := vst (ht s hm)
        exact ⟨!b, by unfold response_Valid_fn1; rw [h1]; rfl⟩)
      have hct : c = true := by
        refine hi.2 (Classical.byContradiction fun hh => hs fun s hm => ?_)
        obtain ⟨b, h1, _, h3⟩ := vst (ht s hm)
        refine h3.1 ?_
        cases b with
        | true => rfl
        | false => exact absurd ⟨s, hm, by unfold response_Valid_fn1; rw [h1]; rfl⟩ hh
      refine ⟨false, ?_, ⟨fun h => (by cases h), fun h => absurd h hn⟩⟩
      simp only
      rw [decide_eq_false h8, hc, hct]; rfl
theorem rvalid {l : List Stage} (hl : l.length ≤ 1000) (ht : ∀ s ∈ l, s.Taps.length ≤ 1000) : ∃ b, ref18_Valid ⟨l⟩ = some b ∧ (b = true ↔ RP l) := by
  unfold ref18_Valid
  obtain ⟨r, e, hr⟩ := loop_ex (b1 := ref18_Valid_l2 ⟨l⟩) (fun k s => ∃ i : Nat, s = (fac (l.take i), (i : Int)) ∧ k + i = l.length ∧ (∀ x ∈ l.take i, SG x) ∧ fac (l.take i) ≤ 64) (fun r => r = true ↔ RP l) (fun k s ⟨i, es, hk, hsg, hf⟩ => by
    subst es
    unfold ref18_Valid_l2
    simp only
    by_cases hil : i < l.length
    · rw [if_pos (decide_eq_true (by omega)), ix_nat _ _ hil]
      obtain ⟨b, _, hb, h3⟩ := vst (ht _ (List.getElem_mem hil))
      simp only [Option.bind, hb]
      cases b with
      | false =>
        refine .inr ⟨false, rfl, ⟨fun h => (by cases h), fun h => ?_⟩⟩
        exact h3.2 (h.1 _ (List.getElem_mem hil))
      | true =>
        have hs := h3.1 rfl
        have hb := fac1_bd hs
        have hp := fac_pos hsg
        have hall : ∀ x ∈ l.take (i + 1), SG x := fun x hx => by
          rw [take_one hil] at hx
          rcases List.mem_append.1 hx with hx | hx
          · exact hsg x hx
          · rcases List.mem_singleton.1 hx with rfl; exact hs
        have hft : fac (l.take (i + 1)) = fac (l.take i) * fac1 l[i] := by rw [take_one hil, fac_append]; simp [fac]
        have hm : fac (l.take i) * fac1 l[i] ≤ 64 * 64 := Int.mul_le_mul hf hb.2 (by omega) (by decide)
        have hm0 : 1 * 1 ≤ fac (l.take i) * fac1 l[i] := Int.mul_le_mul hp hb.1 (by decide) (by omega)
        simp only [Bool.not_true, Bool.false_eq_true, if_false]
        by_cases k2 : l[i].Kind = 2
        · have hf1 : fac1 l[i] = l[i].Factor := by unfold fac1; rw [if_pos k2]
          rw [hf1] at hft hm hm0
          rw [if_pos (by simpa using k2), w64_id (by omega) (by omega)]
          by_cases h6 : 64 < fac (l.take i) * l[i].Factor
          · rw [if_pos (decide_eq_true h6)]
            refine .inr ⟨false, rfl, ⟨fun h => (by cases h), fun h => ?_⟩⟩
            have hsp : fac l = fac (l.take (i + 1)) * fac (l.drop (i + 1)) := by rw [← fac_append, List.take_append_drop]
            have hd := fac_pos (l := l.drop (i + 1)) (fun x hx => h.1 x (List.mem_of_mem_drop hx))
            have := Int.mul_le_mul_of_nonneg_left hd (show 0 ≤ fac (l.take (i + 1)) by omega)
            have := h.2.2
            omega
          · rw [if_neg (by simp; omega)]
            refine .inl ⟨_, k - 1, ?_, ⟨i + 1, rfl, by omega, hall, by omega⟩, by omega⟩
            unfold ref18_Valid_j1
            simp only [Option.bind]
            rw [w64_id (by omega) (by omega), hft]; rfl
        · have hf1 : fac1 l[i] = 1 := by unfold fac1; rw [if_neg k2]
          rw [hf1, Int.mul_one] at hft
          rw [if_neg (by simpa using k2)]
          refine .inl ⟨_, k - 1, ?_, ⟨i + 1, rfl, by omega, hall, by omega⟩, by omega⟩
          unfold ref18_Valid_j1
          simp only [Option.bind]
          rw [w64_id (by omega) (by omega), hft]; rfl
    · have ht : l.take i = l := List.take_of_length_le (by omega)
      rw [ht] at hsg hf
      rw [if_neg (by simp; omega)]
      refine .inr ⟨_, rfl, ?_⟩
      rw [decide_eq_true_iff]
      exact ⟨fun h => ⟨hsg, by omega, hf⟩, fun h => by have := h.2.1; omega⟩) l.length (1, 0) ⟨0, rfl, rfl, by simp, by simp [fac]⟩
  exact ⟨r, e, hr⟩
theorem vresp {l : List Stage} (hl : l.length ≤ 1000) (ht : ∀ s ∈ l, s.Taps.length ≤ 1000) : ∃ b, response_Valid ⟨l⟩ = some b ∧ ref18_Valid ⟨l⟩ = some b ∧ (b = true ↔ RP l) := by
  obtain ⟨b, h1, h2⟩ := cvalid hl ht
  obtain ⟨c, h3, h4⟩ := rvalid hl ht
  have : b = c := by rw [Bool.eq_iff_iff, h2, h4]
  subst this
  exact ⟨b, h1, h3, h2⟩

end Go.Proofs.Ytoendkojgjobbaa.Sh

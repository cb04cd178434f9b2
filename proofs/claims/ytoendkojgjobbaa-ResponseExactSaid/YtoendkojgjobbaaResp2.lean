/- Responses as plain programs (chapter 18): what is valid, factors, gains. -/
import Derived.Test.YtoendkojgjobbaaCont
import Derived.Test.YtoendkojgjobbaaResp
namespace Go.Proofs.Ytoendkojgjobbaa.Sh
open Go
set_option linter.unusedVariables false
set_option linter.unusedSimpArgs false

theorem terms_true {l : List Int} (hl : l.length ≤ 1000) (h : ∀ x ∈ l, -1048576 ≤ x ∧ x ≤ 1048576) : response_terms l = some true := by
  unfold response_terms
  rw [contains_spec (fun x => !((decide (-1048576 ≤ x)) && (decide (x ≤ 1048576)))) response_terms_fn1 (fun x => rfl) l (by omega)]
  have : (l.any fun x => !((decide (-1048576 ≤ x)) && (decide (x ≤ 1048576)))) = false := by
    rw [List.any_eq_false]
    intro x hx
    have := h x hx
    simp [this.1, this.2]
  rw [this]; rfl
theorem three {P : Int → Prop} {a b c : Int} (ha : P a) (hb : P b) (hc : P c) : ∀ x ∈ [a, b, c], P x := by
  intro x hx
  rcases (by simpa using hx : x = a ∨ x = b ∨ x = c) with rfl | rfl | rfl
  · exact ha
  · exact hb
  · exact hc
theorem rin_true {n lo hi : Int} (h0 : lo ≤ n) (h1 : n ≤ hi) : response_in n lo hi = some true := by
  unfold response_in; rw [decide_eq_true h0, decide_eq_true h1]; rfl
theorem vstage_true {s : Stage} (h : SG s) : response_ValidStage s = some true := by
  unfold response_ValidStage
  rcases h with h | h | h
  · obtain ⟨z1, z2, z3, z4⟩ := h.z
    rw [if_pos (by rw [h.k]; rfl), h.t, h.f, h.h, z1, z2, z3, z4, rin_true h.n0 h.n1, rin_true h.d0 h.d1]
    simp
  · rw [if_neg (by rw [h.k]; decide), if_pos (by rw [h.k]; rfl), h.t, h.f, h.h,
      terms_true (l := [s.Num.e0, s.Num.e1, s.Num.e2]) (by simp) (three h.a0 h.a1 h.a2),
      terms_true (l := [s.Den.e0, s.Den.e1, s.Den.e2]) (by simp) (three h.b0 h.b1 h.b2)]
    have := h.ne
    simp [this]
  · have l1 := h.l1
    rw [if_neg (by rw [h.k]; decide), if_neg (by rw [h.k]; decide), if_pos (by rw [h.k]; rfl), h.num, h.den, rin_true (n := (s.Taps.length : Int)) (by have := h.l0; omega) (by omega), terms_true (by omega) h.tap, rsum_spec (by omega) h.tap,
      rin_true h.f0 h.f1, rin_true h.s0 h.s1]
    have := h.ne
    simp [this]

def fac1 (s : Stage) : Int := if s.Kind = 2 then s.Factor else 1
def fac : List Stage → Int
  | [] => 1
  | s :: l => fac1 s * fac l
theorem fac_append (a b : List Stage) : fac (a ++ b) = fac a * fac b := by
  induction a with
  | nil => simp [fac]
  | cons s a ih => simp only [List.cons_append, fac, ih, Int.mul_assoc]
theorem fac1_bd {s : Stage} (h : SG s) : 1 ≤ fac1 s ∧ fac1 s ≤ 64 := by
  unfold fac1
  rcases h with h | h | h
  · rw [if_neg (by rw [h.k]; decide)]; decide
  · rw [if_neg (by rw [h.k]; decide)]; decide
  · rw [if_pos h.k]; exact ⟨h.f0, h.f1⟩
theorem fac_pos {l : List Stage} (h : ∀ s ∈ l, SG s) : 1 ≤ fac l := by
  induction l with
  | nil => simp [fac]
  | cons s l ih =>
    have h1 := fac1_bd (h s (by simp))
    have h2 := ih (fun x hx => h x (by simp [hx]))
    have := Int.mul_le_mul h1.1 h2 (by decide) (by omega)
    simp only [fac]; omega
theorem factor_spec {l : List Stage} (hl : l.length ≤ 100000) (h : ∀ s ∈ l, SG s) : response_factor l = some (if fac l ≤ 64 then fac l else 0) := by
  unfold response_factor
  obtain ⟨r, e, hr⟩ := loop_ex (b1 := response_factor_l2 l) (fun q s => ∃ i : Nat, s = (fac (l.take i), (i : Int)) ∧ q + i = l.length ∧ fac (l.take i) ≤ 64) (fun r => r = if fac l ≤ 64 then fac l else 0)
    (fun q s ⟨i, es, hq, hf⟩ => by
      subst es
      by_cases hi : i < l.length
      · have hs := h _ (List.getElem_mem hi)
        have hb := fac1_bd hs
        have hp := fac_pos (l := l.take i) (fun x hx => h x (List.mem_of_mem_take hx))
        have ht : fac (l.take (i + 1)) = fac (l.take i) * fac1 l[i] := by rw [take_one hi, fac_append]; simp [fac]
        have hm : fac (l.take i) * fac1 l[i] ≤ 64 * 64 := Int.mul_le_mul hf hb.2 (by omega) (by decide)
        have hm0 : 1 * 1 ≤ fac (l.take i) * fac1 l[i] := Int.mul_le_mul hp hb.1 (by decide) (by omega)
        by_cases hle : fac (l.take (i + 1)) ≤ 64
        · left
          refine ⟨_, q - 1, ?_, ⟨i + 1, rfl, by omega, hle⟩, by omega⟩
          unfold response_factor_l2
          simp only
          rw [if_pos (decide_eq_true (by omega)), ix_nat _ _ hi]
          simp only [Option.bind]
          by_cases hk : l[i].Kind = 2
          · have hf1 : fac1 l[i] = l[i].Factor := by unfold fac1; rw [if_pos hk]
            rw [hf1] at ht hm hm0
            rw [if_neg (by simp [hk]), w64_id (by omega) (by omega)]
            rw [if_neg (by simp; omega)]
            unfold response_factor_j1
            simp only
            rw [ht, w64_id (by omega) (by omega)]; rfl
          · have hf1 : fac1 l[i] = 1 := by unfold fac1; rw [if_neg hk]
            rw [hf1, Int.mul_one] at ht
            rw [if_pos (by simpa using hk)]
            unfold response_factor_j1
            simp only
            rw [ht, w64_id (by omega) (by omega)]; rfl
        · right
          have hk : l[i].Kind = 2 := by
            refine Classical.byContradiction fun hk => ?_
            have hf1 : fac1 l[i] = 1 := by unfold fac1; rw [if_neg hk]
            rw [hf1, Int.mul_one] at ht
            omega
          have hf1 : fac1 l[i] = l[i].Factor := by unfold fac1; rw [if_pos hk]
          refine ⟨0, ?_, ?_⟩
          · unfold response_factor_l2
            simp only
            rw [if_pos (decide_eq_true (by omega)), ix_nat _ _ hi]
            simp only [Option.bind]
            rw [hf1] at ht hm hm0
            rw [if_neg (by simp [hk]), w64_id (by omega) (by omega)]
            rw [if_pos (decide_eq_true (by omega))]
          · have hsp : fac l = fac (l.take (i + 1)) * fac (l.drop (i + 1)) := by rw [← fac_append, List.take_append_drop]
            have hd := fac_pos (l := l.drop (i + 1)) (fun x hx => h x (List.mem_of_mem_drop hx))
            have := Int.mul_le_mul_of_nonneg_left hd (show 0 ≤ fac (l.take (i + 1)) by omega)
            rw [if_neg (by omega)]
      · right
        have ht : l.take i = l := List.take_of_length_le (by omega)
        rw [ht] at hf ⊢
        refine ⟨fac l, ?_, by rw [if_pos hf]⟩
        unfold response_factor_l2
        simp only
        rw [if_neg (by simp; omega)]; rfl) l.length (1, 0) ⟨0, rfl, rfl, by simp [fac]⟩
  rw [e, hr]

theorem scontains_false (f : Stage → Option Bool) (l : List Stage) (hl : l.length ≤ 1000000) (h : ∀ s ∈ l, f s = some false) : slices_ContainsFunc_Lapi_Stage_api_Stage l f = some false := by
  unfold slices_ContainsFunc_Lapi_Stage_api_Stage slices_IndexFunc_Lapi_Stage_api_Stage
  have hw : whileM (slices_IndexFunc_Lapi_Stage_api_Stage_l2 l f) 0 = some (-1) := by
    refine whileM_for' (fun i => (i : Int)) l.length _ rfl (fun i hi => ?_) ?_
    · unfold slices_IndexFunc_Lapi_Stage_api_Stage_l2
      rw [if_pos (decide_eq_true (by omega)), ix_nat _ _ hi]
      simp only [Option.bind, h _ (List.getElem_mem hi), Bool.false_eq_true, if_false]
      rw [w64_id (by omega) (by omega)]; rfl
    · unfold slices_IndexFunc_Lapi_Stage_api_Stage_l2
      rw [if_neg (by simp)]; rfl
  rw [hw]; rfl
theorem rvalid_spec {l : List Stage} (hl : l.length ≤ 100000) (h : ∀ s ∈ l, SG s) : response_Valid ⟨l⟩ = some (decide (l.length ≤ 8 ∧ fac l ≤ 64)) := by
  unfold response_Valid
  have hp := fac_pos h
  have hc : slices_ContainsFunc_Lapi_Stage_api_Stage l response_Valid_fn1 = some false := scontains_false _ _ (by omega) fun s hs => by
    unfold response_Valid_fn1; rw [vstage_true (h s hs)]; rfl
  simp only
  rw [hc, factor_spec hl h]
  by_cases h8 : l.length ≤ 8
  · rw [decide_eq_false (show ¬ (8 : Int) < (l.length : Int) by omega)]
    simp only [Bool.false_eq_true, if_false, Option.bind]
    by_cases h6 : fac l ≤ 64
    · rw [if_pos h6, decide_eq_true (show 0 < fac l by omega), decide_eq_true ⟨h8, h6⟩]
    · rw [if_neg h6, decide_eq_false (show ¬ (l.length ≤ 8 ∧ fac l ≤ 64) by omega)]; rfl
  · rw [decide_eq_true (show (8 : Int) < (l.length : Int) by omega), decide_eq_false (show ¬ (l.length ≤ 8 ∧ fac l ≤ 64) by omega)]; rfl

def gN (n d : Int) : List Stage → Int
  | [] => 1
  | s :: l => gnum s n d * gN n d l
def gD (n d : Int) : List Stage → Int
  | [] => 1
  | s :: l => gden s n d * gD n d l
theorem gN_append (n d : Int) (a b : List Stage) : gN n d (a ++ b) = gN n d a * gN n d b := by
  induction a with
  | nil => simp [gN]
  | cons s a ih => simp only [List.cons_append, gN, ih, Int.mul_assoc]
theorem gD_append (n d : Int) (a b : List Stage) : gD n d (a ++ b) = gD n d a * gD n d b := by
  induction a with
  | nil => simp [gD]
  | cons s a ih => simp only [List.cons_append, gD, ih, Int.mul_assoc]
theorem one_nw : NW [1] 1 := ⟨⟨by simp [Dg], fun _ => by simp, rfl⟩, by simp⟩
theorem Gain_spec {l : List Stage} (h : ∀ s ∈ l, SG s) (h8 : l.length ≤ 8) (h6 : fac l ≤ 64) {n d : Int} (n0 : 0 ≤ n) (n1 : n ≤ 65536) (d0 : 1 ≤ d) (d1 : d ≤ 65536) :
    ((∀ s ∈ l, 0 < gden s n d) ∧ ∃ p q, response_Gain ⟨l⟩ n d = some (⟨p, q⟩, 0) ∧ NW p (gN n d l) ∧ NW q (gD n d l) ∧ 0 < gD n d l) ∨
    ((∃ s ∈ l, ¬ 0 < gden s n d) ∧ response_Gain ⟨l⟩ n d = some (⟨[], []⟩, 11)) := by
  obtain ⟨r, e, hr⟩ := loop_ex (b1 := response_Gain_l2 ⟨l⟩ n d)
    (fun q s => ∃ i : Nat, s.2.2 = (i : Int) ∧ q + i = l.length ∧ NW s.1 (gN n d (l.take i)) ∧ NW s.2.1 (gD n d (l.take i)) ∧ s.1.length ≤ 7 * i + 1 ∧ s.2.1.length ≤ 7 * i + 1 ∧ 0 < gD n d (l.take i) ∧ ∀ s ∈ l.take i, 0 < gden s n d)
    (fun r => ((∀ s ∈ l, 0 < gden s n d) ∧ ∃ p q, r = (⟨p, q⟩, 0) ∧ NW p (gN n d l) ∧ NW q (gD n d l) ∧ 0 < gD n d l) ∨ ((∃ s ∈ l, ¬ 0 < gden s n d) ∧ r = (⟨[], []⟩, 11)))
    (fun k s ⟨i, hi, hk, hp, hq, lp, lq, hpos, hall⟩ => by
      obtain ⟨p, q, i'⟩ := s
      simp only at hi hp hq lp lq
      subst hi
      by_cases hil : i < l.length
      · have hs := h _ (List.getElem_mem hil)
        obtain ⟨x, y, eg, hx, hy, lx, ly⟩ := gain_spec hs n0 n1 (by omega : 0 ≤ d) d1
        have tN : gN n d (l.take (i + 1)) = gN n d (l.take i) * gnum l[i] n d := by rw [take_one hil, gN_append]; simp [gN]
        have tD : gD n d (l.take (i + 1)) = gD n d (l.take i) * gden l[i] n d := by rw [take_one hil, gD_append]; simp [gD]
        by_cases hg : 0 < gden l[i] n d
        · left
          obtain ⟨u, v, hu, hv, lu, lv, et⟩ := times_spec (f := ⟨p, q⟩) (g := ⟨x, y⟩) hp hq hx hy hpos hg
          simp only at lu lv
          rw [if_pos ⟨by omega, by omega⟩] at et
          refine ⟨(u, v, ((i + 1 : Nat) : Int)), k - 1, ?_, ⟨i + 1, rfl, by omega, ⟨by rw [tN]; exact hu, by simp only; omega⟩, ⟨by rw [tD]; exact hv, by simp only; omega⟩, by simp only; omega, by simp only; omega, by rw [tD]; exact Int.mul_pos hpos hg, ?_⟩, by omega⟩
          · unfold response_Gain_l2
            simp only
            rw [if_pos (decide_eq_true (by omega)), ix_nat _ _ hil]
            simp only [Option.bind]
            rw [eg, decide_eq_true hg]
            simp only [Bool.not_true, Bool.false_eq_true, if_false]
            rw [et]
            simp only [bne_self_eq_false, Bool.false_eq_true, if_false]
            rw [w64_id (by omega) (by omega)]; rfl
          · intro s hs'
            rw [take_one hil] at hs'
            rcases List.mem_append.1 hs' with h' | h'
            · exact hall s h'
            · rcases List.mem_singleton.1 h' with rfl; exact hg
        · right
          refine ⟨(⟨[], []⟩, 11), ?_, .inr ⟨⟨l[i], List.getElem_mem hil, hg⟩, rfl⟩⟩
          unfold response_Gain_l2
          simp only
          rw [if_pos (decide_eq_true (by omega)), ix_nat _ _ hil]
          simp only [Option.bind]
          rw [eg, decide_eq_false hg]; rfl
      · right
        have ht : l.take i = l := List.take_of_length_le (by omega)
        rw [ht] at hp hq hpos hall
        refine ⟨(⟨p, q⟩, 0), ?_, .inl ⟨hall, p, q, rfl, hp, hq, hpos⟩⟩
        unfold response_Gain_l2
        simp only
        rw [if_neg (by simp; omega)]; rfl) l.length ([1], [1], 0) ⟨0, rfl, rfl, one_nw, one_nw, by simp, by simp, by simp [gD], by simp⟩
  have hG : response_Gain ⟨l⟩ n d = some r := by
    unfold response_Gain
    rw [rvalid_spec (by omega) h, decide_eq_true ⟨h8, h6⟩, rin_true n0 n1, rin_true d0 d1]
    exact e
  rw [hG]
  rcases hr with ⟨ha, p, q, rfl, h1, h2, h3⟩ | ⟨ha, rfl⟩
  · exact .inl ⟨ha, p, q, rfl, h1, h2, h3⟩
  · exact .inr ⟨ha, rfl⟩

end Go.Proofs.Ytoendkojgjobbaa.Sh

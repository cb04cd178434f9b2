/- A record of the dice that is cut into parts (made.Grid). -/
import Derived.Test.YthdimlepjpnncaaGreatDiceRecs
import Derived.Test.YthdimlepjpnncaaGreatRefCmp
namespace Go.Proofs.YthdimlepjpnncaaGreat.Sh
open Go
set_option linter.unusedVariables false
set_option linter.unusedSimpArgs false

def partS (w : Record) (a b : Nat) (k : Int) : Record := ⟨w.Source, w.Start, w.First + a, w.Rate, w.Error, w.Run, k, (w.Samples.take b).drop a⟩
theorem partS_time (w : Record) (a b : Nat) (k i : Int) : timeR (partS w a b k) i = timeR w (a + i) := subR_time w a b i
theorem partS_len (w : Record) (a b : Nat) (k : Int) (hb : b ≤ w.Samples.length) : (partS w a b k).Samples.length = b - a := subR_len w a b hb
theorem RF.part {w : Record} (h : RF w) {a b : Nat} (hab : a < b) (hb : b ≤ w.Samples.length) {k : Int} (k0 : 0 ≤ k) (k1 : k ≤ 1073741824) : RF (partS w a b k) := by
  have hs := h.sub hab hb
  exact ⟨hs.src, hs.l0, hs.l1, hs.f0, hs.f1, hs.e0, hs.e1, hs.r0, hs.r1, k0, k1, hs.rv, hs.s0, hs.s1, hs.te, hs.smp⟩
/-- cut at c 0, c 1, .. up to i -/
structure Cut (w : Record) (c : Nat → Nat) (i : Nat) (P : List Record) : Prop where
  z : c 0 = 0
  st : ∀ k, k < P.length → c k < c (k + 1)
  e : c P.length = i
  le : i ≤ w.Samples.length
  at_ : ∀ k (h : k < P.length), P[k] = partS w (c k) (c (k + 1)) k
theorem Cut.mono {w : Record} {c : Nat → Nat} {i : Nat} {P : List Record} (h : Cut w c i P) : ∀ {j k : Nat}, j ≤ k → k ≤ P.length → c j ≤ c k := by
  intro j k hjk
  induction k with
  | zero => intro _; rw [show j = 0 by omega]; exact Nat.le_refl _
  | succ k ih =>
    intro hk
    by_cases e : j = k + 1
    · subst e; exact Nat.le_refl _
    · have := ih (by omega) (by omega)
      have := h.st k (by omega)
      omega
theorem Cut.bd {w : Record} {c : Nat → Nat} {i : Nat} {P : List Record} (h : Cut w c i P) {k : Nat} (hk : k ≤ P.length) : c k ≤ w.Samples.length := by
  have := h.mono hk (Nat.le_refl _)
  have := h.e
  have := h.le
  omega
theorem Cut.len {w : Record} {c : Nat → Nat} {i : Nat} {P : List Record} (h : Cut w c i P) : ∀ k, k ≤ P.length → k ≤ c k
  | 0, _ => Nat.zero_le _
  | k + 1, hk => by
    have := h.len k (by omega)
    have := h.st k (by omega)
    omega
structure GW (s : SourceID) (w : Record) : Prop where
  rf : RF w
  src : w.Source = s
  st : w.Start = 1000000000000
  fi : w.First = 0
  nm : 1 ≤ w.Rate.Num ∧ w.Rate.Num ≤ 4
  dn : w.Rate.Den = 1
  er : w.Error = 0
  rn : w.Run = 0
  sq : w.Seq = 0
  len : 10 ≤ w.Samples.length ∧ w.Samples.length ≤ 20
theorem dgrid_spec {d : Dice} (hd : DOK d) : ∃ w P d' s c, made_Dice_Grid d 10 = some (w, P, d') ∧ srcB s = true ∧ GW s w ∧ Cut w c w.Samples.length P ∧ DOK d' := by
  unfold made_Dice_Grid
  obtain ⟨s, d1, e1, hs, hd1⟩ := dsource_spec hd
  obtain ⟨h, d2, e2, mh, hd2⟩ := pick_spec hd1 (l := [1, 2, 4]) (by decide) (by decide)
  rw [e1]; simp only [Option.bind_some]
  rw [e2]; simp only [Option.bind_some]
  simp only [List.mem_cons, List.not_mem_nil, or_false] at mh
  obtain ⟨e, he, hde, hl0, hl1, hsm⟩ := loop_ex (b1 := made_Dice_Grid_l1 10)
    (fun m st => DOK ⟨st.1, st.2.1⟩ ∧ ∃ i : Nat, st.2.2.2 = (i : Int) ∧ st.2.2.1.length = i ∧ i ≤ 20 ∧ m + i = 20 ∧ ∀ v ∈ st.2.2.1, -4 ≤ v ∧ v ≤ 4)
    (fun e => DOK ⟨e.1, e.2.1⟩ ∧ 10 ≤ e.2.2.length ∧ e.2.2.length ≤ 20 ∧ ∀ v ∈ e.2.2, -4 ≤ v ∧ v ≤ 4) (by
      rintro m ⟨L, At, l, i'⟩ ⟨dok, i, hi, hl, i1, hm, hv⟩
      simp only at dok hi hl hv
      subst hi
      obtain ⟨k, d3, e3, k0, k1, hd3⟩ := next_spec dok (n := 11) (by decide) (by decide)
      unfold made_Dice_Grid_l1
      simp only
      rw [w64_id (x := (10 : Int) + 1) (by decide) (by decide), show (10 : Int) + 1 = 11 from rfl, e3]
      simp only [Option.bind_some]
      rw [w64_id (x := 10 + k) (by omega) (by omega)]
      by_cases hc : (i : Int) < 10 + k
      · left
        rw [if_pos (decide_eq_true hc)]
        obtain ⟨v, d4, e4, v0, v1, hd4⟩ := next_spec hd3 (n := 9) (by decide) (by decide)
        rw [e4]
        simp only [Option.bind_some]
        rw [w64_id (x := v - 4) (by omega) (by omega), appM_one _ _ _ (by simp; omega) (by decide)]
        simp only [Option.bind_some]
        rw [w64_id (x := (i : Int) + 1) (by omega) (by omega)]
        refine ⟨_, m - 1, rfl, ⟨hd4, i + 1, rfl, by simp; omega, by omega, by omega, fun u hu => ?_⟩, by omega⟩
        rcases List.mem_append.1 hu with hu | hu
        · exact hv u hu
        · rcases List.mem_singleton.1 hu with rfl; omega
      · right
        rw [if_neg (by simpa using hc)]
        exact ⟨_, rfl, hd3, by simp only; omega, by simp only; omega, hv⟩) 20 (d2.L, d2.At, [], 0) ⟨hd2, 0, rfl, rfl, by omega, rfl, by simp⟩
  rw [he]
  simp only [Option.bind_some]
  obtain ⟨w, hw⟩ : ∃ w : Record, (⟨s, 1000000000000, 0, (⟨h, 1⟩ : Rate), 0, 0, 0, e.2.2⟩ : Record) = w := ⟨_, rfl⟩
  have wS : w.Samples = e.2.2 := by rw [← hw]
  have hRF : RF w := by
    rw [← hw]
    have hrv : RV ⟨h, 1⟩ := by
      rcases mh with rfl | rfl | rfl
      · exact rateVB_iff.1 (by decide)
      · exact rateVB_iff.1 (by decide)
      · exact rateVB_iff.1 (by decide)
    have hd := Int.ediv_le_self h (show (0 : Int) ≤ (0 + (e.2.2.length : Int)) * (1 * 1000000) by omega)
    exact ⟨hs, by simp only; omega, by simp only; omega, by simp only; omega, by simp only; omega, by simp only; omega, by simp only; omega, by simp only; omega, by simp only; omega, by simp only; omega, by simp only; omega, hrv, by simp only; omega, by simp only; omega, by simp only; omega, smpB_iff.2 fun x hx => by have := hsm x hx; omega⟩
  obtain ⟨q, hq, hdq, c, hcut⟩ := loop_ex (b1 := made_Dice_Grid_l2 (s, d1) (h, d2) e)
    (fun m st => DOK ⟨st.1, st.2.1⟩ ∧ ∃ (i : Nat) (c : Nat → Nat), st.2.2.2 = (i : Int) ∧ m + i = e.2.2.length ∧ Cut w c i st.2.2.1)
    (fun q => DOK ⟨q.1, q.2.1⟩ ∧ ∃ c, Cut w c e.2.2.length q.2.2) (by
      rintro m ⟨L, At, P, i'⟩ ⟨dok, i, c, hi, hm, hcut⟩
      simp only at dok hi hcut
      subst hi
      have hcl := hcut.len P.length (Nat.le_refl _)
      rw [hcut.e] at hcl
      unfold made_Dice_Grid_l2
      simp only
      by_cases hi : i < e.2.2.length
      · left
        rw [if_pos (decide_eq_true (by omega))]
        obtain ⟨k, d3, e3, k0, k1, hd3⟩ := next_spec dok (n := 9) (by decide) (by decide)
        rw [e3]
        simp only [Option.bind_some]
        rw [w64_id (x := (i : Int) + 1) (by omega) (by omega), w64_id (x := (i : Int) + 1 + k) (by omega) (by omega)]
        obtain ⟨to, hto⟩ : ∃ to : Nat, min ((i : Int) + 1 + k) (e.2.2.length : Int) = (to : Int) := ⟨(min ((i : Int) + 1 + k) (e.2.2.length : Int)).toNat, by omega⟩
        rw [hto, hw, rSub_eq hRF (a := i) (b := to) (by omega) (by rw [wS]; omega)]
        simp only [Option.bind_some]
        rw [appM_one _ _ _ (by simp; omega) (by decide)]
        simp only [Option.bind_some]
        refine ⟨_, e.2.2.length - to, rfl, ⟨hd3, to, fun j => if j ≤ P.length then c j else to, rfl, by omega, ?_⟩, by omega⟩
        have hpl : (P ++ [partS w i to (P.length : Int)]).length = P.length + 1 := by simp
        show Cut w _ to (P ++ [partS w i to (P.length : Int)])
        refine ⟨by rw [if_pos (Nat.zero_le _)]; exact hcut.z, fun j hj => ?_, ?_, by rw [wS]; omega, fun j hj => ?_⟩
        · rw [hpl] at hj
          by_cases hj2 : j < P.length
          · rw [if_pos (by omega), if_pos (by omega)]
            exact hcut.st j hj2
          · have e : j = P.length := by omega
            subst e
            rw [if_pos (Nat.le_refl _), if_neg (by omega), hcut.e]
            omega
        · rw [hpl, if_neg (by omega)]
        · rw [hpl] at hj
          by_cases hj2 : j < P.length
          · rw [if_pos (show j ≤ P.length by omega), if_pos (show j + 1 ≤ P.length by omega), List.getElem_append_left hj2]
            exact hcut.at_ j hj2
          · have e : j = P.length := by omega
            subst e
            rw [if_pos (Nat.le_refl _), if_neg (by omega), hcut.e]
            simp
      · right
        rw [if_neg (by simp; omega)]
        have hil : i = e.2.2.length := by have := hcut.le; rw [wS] at this; omega
        exact ⟨_, rfl, dok, c, hil ▸ hcut⟩) e.2.2.length (e.1, e.2.1, [], 0) ⟨hde, 0, fun _ => 0, rfl, rfl, ⟨rfl, by simp, rfl, Nat.zero_le _, by simp⟩⟩
  rw [hq]
  refine ⟨_, _, _, s, c, rfl, hs, ?_, ?_, hdq⟩
  · rw [hw]
    refine ⟨hRF, ?_, ?_, ?_, ?_, ?_, ?_, ?_, ?_, ?_⟩ <;> rw [← hw]
    · simp only; omega
    · simp only; omega
  · rw [hw, wS]; exact hcut

end Go.Proofs.YthdimlepjpnncaaGreat.Sh

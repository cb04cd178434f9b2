/- ReceiverExact: the law returns true at every input (chapter 11). -/
import Derived.Test.YtiihddcppmjbaaaRecvS
namespace Go.Proofs.Ytiihddcppmjbaaa.Sh
open Go
set_option linter.unusedVariables false
set_option linter.unusedSimpArgs false

/-- the parts of a receiver are few -/
structure FR (r : Receiver) : Prop where
  s : r.Got.length + r.Lost.length ≤ 40
theorem FR.a {r : Receiver} (h : FR r) : r.Got.length < 49 := by have := h.s; omega
theorem FR.b {r : Receiver} (h : FR r) : r.Lost.length < 49 := by have := h.s; omega

theorem rsame_refl {r : Receiver} (h1 : r.Got.length ≤ 1000000) (h2 : r.Lost.length ≤ 1000000) : ref11_Same r r = some true := by
  unfold ref11_Same
  rw [same_refl _ h1, same_refl _ h2]
  rfl
theorem rhigh_spec {r : Receiver} (hv : VR r) (hg : r.Got.length < 50) (hl : r.Lost.length < 50) : ref11_High r = some (highL r) := by
  obtain ⟨c, _, e1, hc⟩ := valid_vr hg hl
  have := hc.2 hv
  subst this
  have j2 : ∀ a, ref11_High_j2 r a = some a := fun a => by
    unfold ref11_High_j2
    rw [e1]
    rfl
  have j1 : ∀ a, 0 ≤ a → ref11_High_j1 r a = some (max a (if r.Lost.length = 0 then 0 else endL r.Lost)) := fun a ha => by
    unfold ref11_High_j1
    simp only [Option.bind_some]
    by_cases h0 : r.Lost.length = 0
    · rw [if_neg (fun q => by have := of_decide_eq_true q; omega), j2, if_pos h0, Int.max_eq_left ha]
    · rw [if_pos (decide_eq_true (by omega)), w64_nat (n := r.Lost.length - 1) (by omega) (by omega), ix_nat _ _ (by omega), if_neg h0, endL_some (by omega)]
      simp only [Option.bind_some]
      rw [j2]
  unfold ref11_High highL
  simp only [Option.bind_some]
  by_cases h0 : r.Got.length = 0
  · rw [if_neg (fun q => by have := of_decide_eq_true q; omega), j1 _ (Int.le_refl _), if_pos h0]
  · rw [if_pos (decide_eq_true (by omega)), w64_nat (n := r.Got.length - 1) (by omega) (by omega), ix_nat _ _ (by omega), if_neg h0, endL_some (by omega)]
    simp only [Option.bind_some]
    rw [j1 _ (by omega)]
theorem rhigh_bad {r : Receiver} (hg : r.Got.length < 50) (hl : r.Lost.length < 50) (h : ref11_Valid r = some false) : ref11_High r = some 0 := by
  have j2 : ∀ a, ref11_High_j2 r a = some 0 := fun a => by
    unfold ref11_High_j2
    rw [h]
    rfl
  have j1 : ∀ a, ref11_High_j1 r a = some 0 := fun a => by
    unfold ref11_High_j1
    simp only [Option.bind_some]
    by_cases h0 : r.Lost.length = 0
    · rw [if_neg (fun q => by have := of_decide_eq_true q; omega), j2]
    · rw [if_pos (decide_eq_true (by omega)), w64_nat (n := r.Lost.length - 1) (by omega) (by omega), ix_nat _ _ (by omega)]
      simp only [Option.bind_some]
      rw [j2]
  unfold ref11_High
  simp only [Option.bind_some]
  by_cases h0 : r.Got.length = 0
  · rw [if_neg (fun q => by have := of_decide_eq_true q; omega), j1 _]
  · rw [if_pos (decide_eq_true (by omega)), w64_nat (n := r.Got.length - 1) (by omega) (by omega), ix_nat _ _ (by omega)]
    simp only [Option.bind_some]
    rw [j1 _]
theorem both_high {r : Receiver} (h : FR r) : ∃ n, receiver_High r = some n ∧ ref11_High r = some n := by
  have a := h.a
  have b := h.b
  obtain ⟨c, e1, e2, hc⟩ := valid_vr (r := r) (by omega) (by omega)
  cases c with
  | true => exact ⟨_, high_spec (hc.1 rfl) (by omega) (by omega), rhigh_spec (hc.1 rfl) (by omega) (by omega)⟩
  | false =>
    refine ⟨0, ?_, rhigh_bad (by omega) (by omega) e2⟩
    unfold receiver_High
    rw [e1]
    rfl
theorem both_missing {r : Receiver} (h : FR r) (k : Int) : ∃ l e, receiver_Missing r k = some (l, e) ∧ ref11_Missing r k = some (l, e) ∧ l.length < 50 := by
  have a := h.a
  have b := h.b
  obtain ⟨c, e1, e2, hc⟩ := valid_vr (r := r) (by omega) (by omega)
  unfold receiver_Missing ref11_Missing
  rw [e1, e2]
  simp only [Option.bind_some]
  cases c with
  | false => exact ⟨_, _, rfl, rfl, by decide⟩
  | true =>
    simp only [Bool.not_true, Bool.false_eq_true, if_false]
    have hin : ∀ a b c, receiver_in a b c = ref01_In a b c := fun _ _ _ => rfl
    rw [hin]
    unfold ref01_In
    simp only [Option.bind_some]
    cases hb : !(decide (0 ≤ k) && decide (k ≤ 1073741825)) with
    | true => exact ⟨_, _, rfl, rfl, by decide⟩
    | false =>
      simp only [Bool.false_eq_true, if_false]
      obtain ⟨n, en, em⟩ := both_high h
      obtain ⟨u, eu, hu⟩ := union_spec (a := r.Got) (b := r.Lost) (by have := h.s; omega)
      obtain ⟨u', eu', ew, _⟩ := both_union (a := r.Got) (b := r.Lost) (by have := h.s; omega)
      have : u' = u := Option.some.inj (eu'.symm.trans eu)
      subst this
      have hul := hu.len
      simp only [List.length_append] at hul
      have hs := h.s
      obtain ⟨m, e7, hm⟩ := minus_spec (a := [(⟨0, max k n⟩ : Span)]) (b := u') (by simp) (by omega)
      obtain ⟨m', e7', e8, _⟩ := both_minus (a := [(⟨0, max k n⟩ : Span)]) (b := u') (by simp) (by omega)
      have : m' = m := Option.some.inj (e7'.symm.trans e7)
      subst this
      have hml := hm.len
      simp only [List.length_singleton, Nat.one_mul] at hml
      unfold receiver_known ref11_both
      rw [en, em, eu, ew]
      simp only [Option.bind_some]
      rw [e7, e8]
      exact ⟨m', 0, rfl, rfl, by omega⟩
theorem both_request {r : Receiver} (h : FR r) (k n : Int) : ∃ l e, receiver_Request r k n = some (l, e) ∧ ref11_Request r k n = some (l, e) ∧ l.length ≤ 1000 := by
  obtain ⟨l, e, e1, e2, hl⟩ := both_missing h k
  unfold receiver_Request ref11_Request
  rw [e1, e2]
  simp only [Option.bind_some]
  cases he : (e != 0) with
  | true => exact ⟨_, _, rfl, rfl, by simp⟩
  | false =>
    simp only [Bool.false_eq_true, if_false]
    have hin : ∀ a b c, receiver_in a b c = ref01_In a b c := fun _ _ _ => rfl
    rw [hin]
    unfold ref01_In
    simp only [Option.bind_some]
    cases hb : !(decide (0 ≤ n) && decide (n ≤ 256)) with
    | true => exact ⟨_, _, rfl, rfl, by simp⟩
    | false =>
      simp only [Bool.false_eq_true, if_false]
      obtain ⟨f, e3, e4, hf⟩ := both_first hl n
      rw [e3, e4]
      exact ⟨f, 0, rfl, rfl, hf⟩
theorem both_settled {r : Receiver} (h : FR r) : ∃ n, receiver_Settled r = some n ∧ ref11_Settled r = some n := by
  have a := h.a
  have b := h.b
  obtain ⟨c, e1, e2, hc⟩ := valid_vr (r := r) (by omega) (by omega)
  obtain ⟨u, eu, hu⟩ := union_spec (a := r.Got) (b := r.Lost) (by have := h.s; omega)
  obtain ⟨u', eu', ew, _⟩ := both_union (a := r.Got) (b := r.Lost) (by have := h.s; omega)
  have : u' = u := Option.some.inj (eu'.symm.trans eu)
  subst this
  unfold receiver_Settled ref11_Settled receiver_known ref11_both
  rw [eu, ew, e1, e2]
  simp only [Option.bind_some]
  cases c with
  | false => exact ⟨0, by simp, by simp⟩
  | true =>
    cases u' with
    | nil => exact ⟨0, rfl, rfl⟩
    | cons t l =>
      have e0 : ix (t :: l) 0 = some t := rfl
      have hz : (((t :: l).length : Int) == 0) = false := by simp; omega
      have hz2 : decide ((0 : Int) < ((t :: l).length : Int)) = true := by simp
      rw [hz, hz2, e0]
      simp only [Option.bind_some, Bool.not_true, Bool.or_self, Bool.and_self, Bool.false_eq_true, if_false, if_true]
      have tf : 0 ≤ t.From := by
        have hv := hc.1 rfl
        have he := hu.eb (lo := 0) (hi := 1073741825) (hv.g.2.app hv.l.2)
        exact (he t (by simp)).1.1
      by_cases hp : 0 < t.From
      · refine ⟨0, by rw [if_pos (decide_eq_true hp)], by rw [if_neg (by simp; omega)]⟩
      · refine ⟨t.To, by rw [if_neg (by simpa using hp)], by rw [if_pos (by simp; omega)]⟩

/-! ### the law -/
theorem r50 {r : Receiver} (h : FR r) (most k : Int) (sv : List Int × Int × Int) (rv : Int × Dice) : whileM (law11_ReceiverExact_l50 most r sv k rv) 0 = some (Sum.inl (rv.2.L, rv.2.At, w64 (sv.2.2 + 1))) := by
  refine loop_const 2 _ (fun i hi => ?_) ?_
  · unfold law11_ReceiverExact_l50
    rw [if_pos (by simp; omega), ix_nat _ _ (by simpa using hi)]
    simp only [Option.bind_some]
    obtain ⟨l, e, h1, h2, h3⟩ := both_request h k ([most, w64 (rv.1 - 1)] : List Int)[i]
    rw [h1, h2]
    simp only [Option.bind_some, bne_self_eq_false, Bool.false_eq_true, if_false]
    rw [same_refl l (by omega), w64_n (by omega)]
    rfl
  · unfold law11_ReceiverExact_l50
    rw [if_neg (by simp)]
    rfl
theorem r46 {r : Receiver} (h : FR r) (next most : Int) (sv : List Int × Int × Int) (rv : Int × Dice) {d : Dice} (hd : DOK d) :
    ∃ d', DOK d' ∧ whileM (law11_ReceiverExact_l46 next most sv r rv) (d.L, d.At, 0) = some (Sum.inl (d'.L, d'.At, w64 (sv.2.2 + 1))) := by
  obtain ⟨_, e, d', hd', rfl⟩ := loop_fold (body := law11_ReceiverExact_l46 next most sv r rv) (fun (a : Dice) i => (a.L, a.At, i)) 3 (fun i a => DOK a) (fun x => ∃ d', DOK d' ∧ x = Sum.inl (d'.L, d'.At, w64 (sv.2.2 + 1))) (fun i hi a ha => by
    unfold law11_ReceiverExact_l46
    simp only
    rw [if_pos (by simp; omega), ix_nat _ _ (by simpa using hi)]
    simp only [Option.bind_some]
    obtain ⟨l, e, h1, h2, h3⟩ := both_missing h ([next, w64 (rv.1 - 1), 1073741825] : List Int)[i]
    rw [h1, h2]
    simp only [Option.bind_some, bne_self_eq_false, Bool.false_eq_true, if_false]
    rw [same_refl l (by omega)]
    simp only [Option.bind_some, Bool.not_true, Bool.false_eq_true, if_false]
    obtain ⟨y, d', ey, _, _, hd'⟩ := next_spec ha (n := 6) (by decide) (by decide)
    have ea : (⟨a.L, a.At⟩ : Dice) = a := rfl
    rw [ea, ey]
    simp only [Option.bind_some]
    rw [r50 h]
    simp only
    rw [w64_n (by omega)]
    exact ⟨d', rfl, hd'⟩) (fun a ha => by
    unfold law11_ReceiverExact_l46
    simp only
    rw [if_neg (by simp)]
    have q1 := h.a
    have q2 := h.b
    obtain ⟨c, e1, e2, _⟩ := valid_vr (r := r) (by omega) (by omega)
    obtain ⟨n, e3, e4⟩ := both_high h
    obtain ⟨m, e5, e6⟩ := both_settled h
    rw [e1, e2, e3, e4, e5, e6]
    refine ⟨_, ?_, a, ha, rfl⟩
    simp only [Option.bind_some, bne_self_eq_false, beq_self_eq_true, Bool.not_true, Bool.false_eq_true, if_false]
    rfl) d hd
  exact ⟨d', hd', e⟩
theorem r39 {r : Receiver} (h : FR r) (seq below next most : Int) (sv : List Int × Int × Int) {rv : Int × Dice} (hd : DOK rv.2) :
    ∃ d', DOK d' ∧ whileM (law11_ReceiverExact_l39 seq below next most sv r rv) 0 = some (Sum.inl (d'.L, d'.At, w64 (sv.2.2 + 1))) := by
  obtain ⟨y, dd, ey, _, _, hdd⟩ := next_spec hd (n := 20) (by decide) (by decide)
  obtain ⟨d', hd', e⟩ := r46 h next most sv (y, dd) hdd
  refine ⟨d', hd', loop_const 5 _ (fun i hi => ?_) ?_⟩
  · unfold law11_ReceiverExact_l39
    rw [if_pos (by simp; omega), ix_nat _ _ (by simpa using hi)]
    simp only [Option.bind_some]
    have q1 := h.a
    have q2 := h.b
    have q3 := h.s
    obtain ⟨a, o, e, h1, h2, a1, a2⟩ := both_accept q1 q2 ([seq, below, w64 (rv.1 - 1), 1073741824, 1073741825] : List Int)[i]
    obtain ⟨b, f, h3, h4, b1, b2⟩ := both_lose (r := r) q1 q2 (by omega) ([seq, below, w64 (rv.1 - 1), 1073741824, 1073741825] : List Int)[i]
    rw [h1, h2, h3, h4]
    simp only [Option.bind_some, bne_self_eq_false, beq_self_eq_true, Bool.not_true, Bool.or_self, Bool.false_eq_true, if_false]
    rw [rsame_refl (r := a) (by omega) (by omega), rsame_refl (r := b) (by omega) (by omega)]
    simp only [Option.bind_some, bne_self_eq_false, beq_self_eq_true, Bool.not_true, Bool.or_self, Bool.false_eq_true, if_false]
    rw [w64_n (by omega)]
  · unfold law11_ReceiverExact_l39
    rw [if_neg (by simp), ey]
    simp only [Option.bind_some]
    rw [e]
    rfl

theorem law11_ReceiverExact_true (t : List Int) (raw : Receiver) (seq below next most : Int) (_ : (t.length : Int) ≤ 140737488355328 ∧ ∀ x ∈ t, -9223372036854775808 ≤ x ∧ x ≤ 9223372036854775807)
    (hz : ((raw.Got.length : Int) ≤ 140737488355328 ∧ ∀ y ∈ raw.Got, (-9223372036854775808 ≤ y.From ∧ y.From ≤ 9223372036854775807) ∧ (-9223372036854775808 ≤ y.To ∧ y.To ≤ 9223372036854775807)) ∧ ((raw.Lost.length : Int) ≤ 140737488355328 ∧ ∀ y ∈ raw.Lost, (-9223372036854775808 ≤ y.From ∧ y.From ≤ 9223372036854775807) ∧ (-9223372036854775808 ≤ y.To ∧ y.To ≤ 9223372036854775807)))
    (_ : -9223372036854775808 ≤ seq ∧ seq ≤ 9223372036854775807) (_ : -9223372036854775808 ≤ below ∧ below ≤ 9223372036854775807) (_ : -9223372036854775808 ≤ next ∧ next ≤ 9223372036854775807) (_ : -9223372036854775808 ≤ most ∧ most ≤ 9223372036854775807) : law11_ReceiverExact t raw seq below next most = some true := by
  unfold law11_ReceiverExact
  rw [light_spec]
  simp only [Option.bind_some]
  by_cases hl : t.length ≤ 500
  case neg => rw [decide_eq_false hl, rsane_true]; rfl
  have hz1 := hz.1.1
  have hz2 := hz.2.1
  rw [w64_id (x := (raw.Got.length : Int) + raw.Lost.length) (by omega) (by omega)]
  by_cases hr : raw.Got.length + raw.Lost.length ≤ 40
  case neg => rw [decide_eq_true hl, decide_eq_true (show (40 : Int) < (raw.Got.length : Int) + raw.Lost.length by omega), rsane_true]; rfl
  rw [decide_eq_true hl, decide_eq_false (show ¬ (40 : Int) < (raw.Got.length : Int) + raw.Lost.length by omega)]
  simp only [Bool.not_true, Bool.or_self, Bool.false_eq_true, if_false, made_Roll, Option.bind_some]
  obtain ⟨r, d1, er, br, hd1⟩ := dreceiver (DOK.roll hl)
  obtain ⟨la, lb⟩ := br.lens (by decide) (by decide)
  have l1 := vs_len br.v.g.1 br.g (by decide)
  have l2 := vs_len br.v.l.1 br.l (by decide)
  obtain ⟨x, d2, ex, _, _, hd2⟩ := next_spec hd1 (n := 20) (by decide) (by decide)
  obtain ⟨y, d3, ey, _, _, hd3⟩ := next_spec hd2 (n := 30) (by decide) (by decide)
  rw [er]
  simp only [Option.bind_some]
  rw [appM_one _ _ _ (by simp; omega) (by decide), appM_one _ _ _ (by simp; omega) (by decide), ex]
  simp only [Option.bind_some, List.nil_append]
  rw [ey]
  simp only [Option.bind_some]
  rw [appM_one _ _ _ (by simp; omega) (by decide)]
  simp only [Option.bind_some]
  have f1 : FR r := ⟨by omega⟩
  have f2 : FR ⟨r.Got, r.Lost ++ [(⟨x, y⟩ : Span)]⟩ := ⟨by simp; omega⟩
  have f3 : FR raw := ⟨hr⟩
  have step : ∀ (i : Nat) (q : Receiver), FR q → ix ([r, (⟨r.Got, r.Lost ++ [(⟨x, y⟩ : Span)]⟩ : Receiver), raw] : List Receiver) (i : Int) = some q → i < 3 → ∀ a : Dice, DOK a →
      ∃ a', law11_ReceiverExact_l27 raw seq below next most (r, d1) r.Got (r.Lost ++ [(⟨x, y⟩ : Span)]) (a.L, a.At, (i : Int)) = some (.inl (a'.L, a'.At, ((i + 1 : Nat) : Int))) ∧ DOK a' := fun i q hq hi h3 a ha => by
    unfold law11_ReceiverExact_l27
    simp only
    rw [if_pos (by simp; omega), hi]
    simp only [Option.bind_some]
    obtain ⟨z, dz, ez, _, _, hdz⟩ := next_spec ha (n := 18) (by decide) (by decide)
    have ea : (⟨a.L, a.At⟩ : Dice) = a := rfl
    rw [ea, ez]
    simp only [Option.bind_some]
    obtain ⟨d', hd', e⟩ := r39 hq seq below next most (a.L, a.At, (i : Int)) (rv := (z, dz)) hdz
    rw [e]
    simp only
    rw [w64_n (by omega)]
    exact ⟨d', rfl, hd'⟩
  obtain ⟨_, e, rfl⟩ := loop_fold (body := law11_ReceiverExact_l27 raw seq below next most (r, d1) r.Got (r.Lost ++ [(⟨x, y⟩ : Span)])) (fun (a : Dice) i => (a.L, a.At, i)) 3 (fun i a => DOK a) (fun x => x = true) (fun i hi a ha => by
    match i, hi with
    | 0, _ => exact step 0 _ f1 rfl (by decide) a ha
    | 1, _ => exact step 1 _ f2 rfl (by decide) a ha
    | 2, _ => exact step 2 _ f3 rfl (by decide) a ha) (fun a ha => by
    unfold law11_ReceiverExact_l27
    simp only
    rw [if_neg (by simp)]
    have e0 : receiver_New = some ⟨[], []⟩ := rfl
    have e1 : ref11_New = some ⟨[], []⟩ := rfl
    rw [e0, e1]
    simp only [Option.bind_some]
    rw [rsame_refl (by simp) (by simp), rsane_true]
    exact ⟨true, rfl, rfl⟩) d3 hd3
  exact e

end Go.Proofs.Ytiihddcppmjbaaa.Sh

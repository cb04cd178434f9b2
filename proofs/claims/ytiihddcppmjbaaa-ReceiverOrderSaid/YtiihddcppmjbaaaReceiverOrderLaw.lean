/- ReceiverOrder: the law returns true at every input (chapter 11). -/
import Derived.Test.YtiihddcppmjbaaaRecvS
namespace Go.Proofs.Ytiihddcppmjbaaa.Sh
open Go
set_option linter.unusedVariables false
set_option linter.unusedSimpArgs false

/-- the reference's length -/
theorem rnear_true {l : List Span} (h : EB (-1152921504606846976) 1152921504606846976 l) (hl : l.length ≤ 1000000) : ref08_near l = some true := by
  unfold ref08_near
  obtain ⟨r, er, rfl⟩ := loop_fold (body := ref08_near_l2 l) (fun (_ : Unit) i => i) l.length (fun (i : Nat) (_ : Unit) => True) (fun r => r = true) (fun i hi a hI => by
    unfold ref08_near_l2 ref01_In
    have hb := h _ (List.getElem_mem hi)
    refine ⟨(), ?_, trivial⟩
    rw [if_pos (decide_eq_true (by omega)), ix_nat _ _ hi, w64_n (by omega)]
    simp only [Option.bind_some, decide_eq_true hb.1.1, decide_eq_true hb.1.2, decide_eq_true hb.2.1, decide_eq_true hb.2.2, Bool.and_self, Bool.not_true, Bool.false_eq_true, if_false]) (fun a hI => by
    unfold ref08_near_l2
    rw [if_neg (by simp)]
    exact ⟨_, rfl, rfl⟩) () trivial
  exact er
theorem rlength_valid {l : List Span} (hv : VS l) (hl : l.length < 50) (he : EB 0 1000 l) : ref08_Length l = some (card l, true) := by
  obtain ⟨r, er, hr⟩ := rnormal_spec (l := l) (by omega)
  have hs := hr.self hv
  subst hs
  unfold ref08_Length
  rw [er]
  simp only [Option.bind_some]
  rw [rnear_true (he.wide (by decide) (by decide)) (by omega)]
  simp only [Option.bind_some, Bool.not_true, Bool.false_eq_true, if_false]
  obtain ⟨r2, er2, hr2⟩ := loop_fold (body := ref08_Length_l1 r) (fun a i => (a, i)) r.length (fun i a => a = card (r.take i)) (fun x => x = card r) (fun i hi' a ha => by
    unfold ref08_Length_l1
    simp only
    rw [if_pos (decide_eq_true (by omega)), ix_nat _ _ hi']
    have b1 := he _ (List.getElem_mem hi')
    have vt : VS (r.take i) := ⟨fun s hs => hv.ne s (List.mem_of_mem_take hs), hv.ap.sublist (List.take_sublist _ _)⟩
    have b3 := card_le (lo := 0) (hi := 1000) vt (he.sub fun s hs => List.mem_of_mem_take hs) (by decide)
    have b4 := card_nn vt
    have b2 := hv.ne _ (List.getElem_mem hi')
    subst ha
    simp only [Option.bind_some]
    rw [w64_id (x := r[i].To - r[i].From) (by omega) (by omega), w64_id (x := card (r.take i) + (r[i].To - r[i].From)) (by omega) (by omega), w64_n (n := i) (by omega)]
    refine ⟨_, rfl, ?_⟩
    rw [take_one hi', card_append]
    simp [card]) (fun a ha => by
    unfold ref08_Length_l1
    simp only
    rw [if_neg (by simp)]
    rw [List.take_of_length_le (Nat.le_refl _)] at ha
    exact ⟨a, rfl, ha⟩) 0 rfl
  rw [er2, hr2]
  rfl

/-- the numbers that arrive -/
theorem olist {d : Dice} (hd : DOK d) {m : Int} (m0 : 0 ≤ m) (m1 : m < 12) : ∃ l, whileM law11_ReceiverOrder_l1 (d.L, d.At, [], m) = some l ∧ l.length ≤ 11 ∧ ∀ x ∈ l, 0 ≤ x ∧ x < 16 := by
  obtain ⟨l, er, hr⟩ := loop_ex (b1 := law11_ReceiverOrder_l1)
    (fun k s => DOK ⟨s.1, s.2.1⟩ ∧ (∀ x ∈ s.2.2.1, 0 ≤ x ∧ x < 16) ∧ 0 ≤ s.2.2.2 ∧ s.2.2.2 + s.2.2.1.length ≤ 11 ∧ k = s.2.2.2.toNat)
    (fun l => l.length ≤ 11 ∧ ∀ x ∈ l, 0 ≤ x ∧ x < 16) (by
      rintro k ⟨L, A, out, i⟩ ⟨h1, h2, h3, h4, hk⟩
      simp only at h1 h2 h3 h4 hk
      unfold law11_ReceiverOrder_l1
      simp only
      by_cases hi : 0 < i
      · left
        rw [if_pos (decide_eq_true hi)]
        obtain ⟨x, d2, e2, x0, x1, hd2⟩ := next_spec h1 (n := 16) (by decide) (by decide)
        rw [e2]
        simp only [Option.bind_some]
        rw [appM_one _ _ _ (by simp; omega) (by decide), w64_id (x := i - 1) (by omega) (by omega)]
        refine ⟨_, k - 1, rfl, ⟨hd2, fun y hy => ?_, by simp only; omega, by simp; omega, by simp only; omega⟩, by omega⟩
        rcases List.mem_append.1 hy with hy | hy
        · exact h2 y hy
        · rcases List.mem_singleton.1 hy with rfl
          exact ⟨x0, x1⟩
      · right
        rw [if_neg (by simpa using hi)]
        exact ⟨_, rfl, by omega, h2⟩) m.toNat (d.L, d.At, [], m) ⟨hd, fun s hs => (by cases hs), m0, by simp only [List.length_nil]; omega, rfl⟩
  exact ⟨l, er, hr⟩

theorem law11_ReceiverOrder_true (t : List Int) (n : Int) (_ : (t.length : Int) ≤ 140737488355328 ∧ ∀ x ∈ t, -9223372036854775808 ≤ x ∧ x ≤ 9223372036854775807) (hn : 0 ≤ n ∧ n ≤ 255) : law11_ReceiverOrder t n = some true := by
  unfold law11_ReceiverOrder
  rw [light_spec]
  simp only [Option.bind_some]
  by_cases hl : t.length ≤ 500
  case neg => rw [decide_eq_false hl, rsane_true]; rfl
  rw [decide_eq_true hl]
  simp only [Bool.not_true, Bool.false_eq_true, if_false, made_Roll, Option.bind_some]
  obtain ⟨m, d, em, m0, m1, hd⟩ := next_spec (DOK.roll hl) (n := 12) (by decide) (by decide)
  rw [em]
  simp only [Option.bind_some]
  obtain ⟨l, el, ll, lm⟩ := olist hd m0 m1
  have e0 : receiver_New = some ⟨[], []⟩ := rfl
  rw [el, e0]
  simp only [Option.bind_some]
  obtain ⟨e, ee, ⟨ba, bb, ga, gb, la, lb⟩⟩ := loop_fold (body := law11_ReceiverOrder_l2 l) (fun (a : Receiver × Receiver) i => (a.1.Got, a.1.Lost, a.2.Got, a.2.Lost, i)) l.length
    (fun i a => BR 16 a.1 ∧ BR 16 a.2 ∧ (∀ z, Mem a.1.Got z ↔ ∃ j, j < i ∧ l[j]? = some z) ∧ (∀ z, Mem a.2.Got z ↔ ∃ j, j < i ∧ l[l.length - 1 - j]? = some z) ∧ (∀ z, ¬ Mem a.1.Lost z) ∧ (∀ z, ¬ Mem a.2.Lost z))
    (fun e => BR 16 ⟨e.1, e.2.1⟩ ∧ BR 16 ⟨e.2.2.1, e.2.2.2⟩ ∧ (∀ z, Mem e.1 z ↔ ∃ j, j < l.length ∧ l[j]? = some z) ∧ (∀ z, Mem e.2.2.1 z ↔ ∃ j, j < l.length ∧ l[l.length - 1 - j]? = some z) ∧ (∀ z, ¬ Mem e.2.1 z) ∧ (∀ z, ¬ Mem e.2.2.2 z))
    (fun i hi a ⟨h1, h2, h3, h4, h5, h6⟩ => by
      unfold law11_ReceiverOrder_l2
      simp only
      have x1 := lm _ (List.getElem_mem hi)
      have hj : l.length - 1 - i < l.length := by omega
      have x2 := lm _ (List.getElem_mem hj)
      obtain ⟨p, o1, e1, _, bp, gp, lp, _⟩ := accept_spec h1 (by decide) (by decide) x1.1 x1.2
      obtain ⟨q, o2, e2, _, bq, gq, lq, _⟩ := accept_spec h2 (by decide) (by decide) x2.1 x2.2
      have w1 : w64 ((l.length : Int) - 1) = ((l.length - 1 : Nat) : Int) := w64_nat (by omega) (by omega)
      have w2 : w64 (((l.length - 1 : Nat) : Int) - (i : Int)) = ((l.length - 1 - i : Nat) : Int) := w64_nat (by omega) (by omega)
      have ea : (⟨a.1.Got, a.1.Lost⟩ : Receiver) = a.1 := rfl
      have eb : (⟨a.2.Got, a.2.Lost⟩ : Receiver) = a.2 := rfl
      rw [if_pos (decide_eq_true (by omega)), ix_nat _ _ hi, w1, w2, ix_nat _ _ hj]
      simp only [Option.bind_some]
      rw [ea, eb, e1, e2, w64_n (by omega)]
      refine ⟨(p, q), rfl, bp, bq, fun z => ?_, fun z => ?_, fun z hz => h5 z ((lp z).1 hz).1, fun z hz => h6 z ((lq z).1 hz).1⟩
      · rw [gp, h3]
        constructor
        · rintro (⟨j, hj, e⟩ | rfl)
          · exact ⟨j, by omega, e⟩
          · exact ⟨i, by omega, List.getElem?_eq_getElem hi⟩
        · rintro ⟨j, hj, e⟩
          by_cases hji : j = i
          · subst hji
            rw [List.getElem?_eq_getElem hi] at e
            exact .inr (Option.some.inj e).symm
          · exact .inl ⟨j, by omega, e⟩
      · rw [gq, h4]
        constructor
        · rintro (⟨j, hj, e⟩ | rfl)
          · exact ⟨j, by omega, e⟩
          · exact ⟨i, by omega, List.getElem?_eq_getElem hj⟩
        · rintro ⟨j, hj2, e⟩
          by_cases hji : j = i
          · subst hji
            rw [List.getElem?_eq_getElem hj] at e
            exact .inr (Option.some.inj e).symm
          · exact .inl ⟨j, by omega, e⟩) (fun a h => by
      unfold law11_ReceiverOrder_l2
      simp only
      rw [if_neg (by simp)]
      exact ⟨_, rfl, h⟩) (⟨[], []⟩, ⟨[], []⟩) ⟨BR.zero.wide (by decide), BR.zero.wide (by decide), fun z => ⟨fun h => absurd h Mem.nil, fun ⟨j, h, _⟩ => absurd h (by omega)⟩, fun z => ⟨fun h => absurd h Mem.nil, fun ⟨j, h, _⟩ => absurd h (by omega)⟩, fun z => Mem.nil, fun z => Mem.nil⟩
  have he : (e.2.2.1, e.2.2.2) = (e.1, e.2.1) := by
    have q1 : e.2.2.1 = e.1 := bb.v.g.1.uniq ba.v.g.1 (fun z => by
      rw [ga, gb]
      constructor
      · rintro ⟨j, hj, e⟩
        exact ⟨l.length - 1 - j, by omega, e⟩
      · rintro ⟨j, hj, e⟩
        exact ⟨l.length - 1 - j, by omega, by rw [show l.length - 1 - (l.length - 1 - j) = j by omega]; exact e⟩)
    have q2 : e.2.2.2 = e.2.1 := bb.v.l.1.uniq ba.v.l.1 (fun z => ⟨fun h => absurd h (lb z), fun h => absurd h (la z)⟩)
    rw [q1, q2]
  have he1 : e.2.2.1 = e.1 := congrArg Prod.fst he
  have he2 : e.2.2.2 = e.2.1 := congrArg Prod.snd he
  obtain ⟨x, ex, _, bx, gx, lx⟩ := lose_spec ba (by decide) (by decide) (k := 5) (by decide) (by decide)
  obtain ⟨a, eal, hv, hal, ham⟩ := missing_spec bx (by decide) (by decide) (k := 18) (by decide) (by decide)
  have hh := high_le bx (by decide)
  have aeb : EB 0 18 a := eb_mem (fun z hz => by have := (ham z).1 hz; omega) hv
  have n0 : 0 ≤ n.tmod 8 := Int.tmod_nonneg 8 hn.1
  have n1 : n.tmod 8 < 8 := Int.tmod_lt_of_pos n (by decide)
  rw [w64_id (x := n) (by omega) (by omega)]
  generalize n.tmod 8 = k at *
  obtain ⟨r, hr, ef⟩ := first_spec (l := a) (n := k) (by omega) (aeb.wide (by decide) (by decide)) n0 (by omega)
  have hself := hr.self hv
  subst hself
  have fs := first_fs (n := k) hv n0
  generalize firstL k r = f at *
  have feb := fs.eb 0 18 aeb
  have fl := fs.len
  have er : receiver_Request x 18 k = some (f, 0) := by
    unfold receiver_Request
    rw [eal]
    have hin : receiver_in k 0 256 = some true := by
      unfold receiver_in
      rw [decide_eq_true n0, decide_eq_true (show k ≤ 256 by omega)]
      rfl
    simp only [Option.bind_some, bne_self_eq_false, Bool.false_eq_true, if_false]
    rw [hin, ef]
    rfl
  rw [ee]
  simp only [Option.bind_some]
  rw [he1, he2, ex]
  simp only [Option.bind_some]
  rw [eal, er]
  simp only [Option.bind_some]
  rw [rlength_valid fs.vs (by omega) (feb.wide (by decide) (by decide)), rlength_valid hv (by omega) (aeb.wide (by decide) (by decide))]
  simp only [Option.bind_some, beq_self_eq_true, Bool.and_self, if_true]
  obtain ⟨lx1, lx2⟩ := bx.lens (by decide) (by decide)
  have es : ref11_Same x x = some true := by
    unfold ref11_Same
    rw [same_refl _ (by omega), same_refl _ (by omega)]
    rfl
  have hc : (card f == min k (card r)) = true := beq_iff_eq.2 fs.card
  obtain ⟨o, eo, ho⟩ := minus_spec (a := f) (b := r) (by omega) (by omega)
  obtain ⟨o', eo', eo2, _⟩ := both_minus (a := f) (b := r) (by omega) (by omega)
  have : o' = o := Option.some.inj (eo'.symm.trans eo)
  subst this
  have ho0 : o'.length = 0 := (no_mem ho.vs).2 (fun z hz => by
    have := (ho.mem z).1 hz
    exact this.2 (fs.mem z this.1))
  have ho1 : ((o'.length : Int) == 0) = true := beq_iff_eq.2 (by omega)
  rw [es]
  simp only [Option.bind_some, hc, Bool.and_self, if_true]
  rw [eo2]
  simp only [Option.bind_some, ho1, if_true]
  have hlast : ((if ((card f == card r) || ((f.length : Int) == 0)) = true then
        some true
      else
        (ix f (w64 ((f.length : Int) - 1))).bind fun x666 =>
        (ref08_Cut r 0 x666.To).bind fun rv678 =>
        (ref08_Same f rv678).bind fun rv689 =>
        some rv689)) = some true := by
    by_cases hf0 : f.length = 0
    · have : ((f.length : Int) == 0) = true := beq_iff_eq.2 (by omega)
      rw [this, Bool.or_true, if_pos rfl]
    · have : ((f.length : Int) == 0) = false := beq_eq_false_iff_ne.2 (by omega)
      rw [this, Bool.or_false]
      by_cases hcc : (card f == card r) = true
      · rw [if_pos hcc]
      · rw [if_neg hcc, w64_nat (n := f.length - 1) (by omega) (by omega), ix_nat _ _ (by omega)]
        simp only [Option.bind_some]
        obtain ⟨c, ec, hcv, hcm⟩ := rmeet_spec (a := r) (b := [(⟨0, f[f.length - 1].To⟩ : Span)]) (by omega) (by simp)
        have hlm := List.getElem_mem (show f.length - 1 < f.length by omega)
        have hln := fs.vs.ne _ hlm
        have hle := feb _ hlm
        have hfc : f = c := fs.vs.uniq hcv (fun z => by
          rw [hcm, mem_one]
          simp only
          constructor
          · intro hz
            obtain ⟨s, hs, q⟩ := id hz
            have := vs_first fs.vs (by omega) s hs
            have := feb s hs
            exact ⟨fs.mem z hz, by omega⟩
          · rintro ⟨h1, h2⟩
            refine Classical.byContradiction fun hn => ?_
            have := fs.ends z (f[f.length - 1].To - 1) h1 hn ⟨_, hlm, by omega, by omega⟩
            omega)
        unfold ref08_Cut
        rw [ec, ← hfc]
        simp only [Option.bind_some]
        rw [same_refl _ (by omega)]
        rfl
  rw [hlast, rsane_true]
  rfl

end Go.Proofs.Ytiihddcppmjbaaa.Sh

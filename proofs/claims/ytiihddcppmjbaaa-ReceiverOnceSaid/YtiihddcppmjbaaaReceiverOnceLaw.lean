/- ReceiverOnce: the law returns true at every input (chapter 11). -/
import Derived.Test.YtiihddcppmjbaaaRecvS
namespace Go.Proofs.Ytiihddcppmjbaaa.Sh
open Go
set_option linter.unusedVariables false
set_option linter.unusedSimpArgs false

theorem mget_at {α : Type} (m : Mp α) {x : Int} (h0 : 0 ≤ x) (h1 : x ≤ 1000000) : m.get x = some (m.at_ x) := by
  unfold Mp.get
  rw [if_pos (by omega)]
theorem mput_at (m : Mp Bool) {x : Int} (b : Bool) (h0 : 0 ≤ x) (h1 : x ≤ 1000000) (hn : m.n ≤ 1000) : m.put x b = some ⟨m.n + 1, fun y => if y = x then b else m.at_ y⟩ := by
  unfold Mp.put
  rw [if_pos ⟨by omega, by omega, rfl⟩]

theorem once_end {L : List Int} {A : Int} {r : Receiver} {m : Mp Bool} {i : Int} (br : BR 14 r) (hm : ∀ k : Int, 0 ≤ k → k < 16 → (m.at_ k = true ↔ Mem r.Got k)) : whileM (law11_ReceiverOnce_l4 (L, A, r.Got, r.Lost, m, i)) 0 = some true := by
  obtain ⟨la, lb⟩ := br.lens (by decide) (by decide)
  refine loop_const 16 _ (fun k hk => ?_) ?_
  · unfold law11_ReceiverOnce_l4
    simp only
    obtain ⟨c, ec, hc⟩ := rhas_spec r.Got (k : Int) (by omega)
    rw [if_pos (by simp; omega), ec, mget_at m (by omega) (by omega)]
    simp only [Option.bind_some]
    have : (c == m.at_ (k : Int)) = true := by
      rw [beq_iff_eq, Bool.eq_iff_iff, hc, hm k (by omega) (by omega)]
    rw [this, w64_n (by omega)]
    rfl
  · unfold law11_ReceiverOnce_l4
    simp only
    rw [if_neg (by simp), rsane_true]
    rfl

theorem law11_ReceiverOnce_true (t : List Int) (_ : (t.length : Int) ≤ 140737488355328 ∧ ∀ x ∈ t, -9223372036854775808 ≤ x ∧ x ≤ 9223372036854775807) : law11_ReceiverOnce t = some true := by
  unfold law11_ReceiverOnce
  rw [light_spec]
  simp only [Option.bind_some]
  by_cases hl : t.length ≤ 500
  case neg => rw [decide_eq_false hl, rsane_true]; rfl
  rw [decide_eq_true hl]
  have e0 : receiver_New = some ⟨[], []⟩ := rfl
  simp only [Bool.not_true, Bool.false_eq_true, if_false, made_Roll, e0, Option.bind_some]
  obtain ⟨_, e, rfl⟩ := loop_fold (body := law11_ReceiverOnce_l2) (fun (a : Dice × Receiver × Mp Bool) i => (a.1.L, a.1.At, a.2.1.Got, a.2.1.Lost, a.2.2, i)) 20
    (fun i a => DOK a.1 ∧ BR 14 a.2.1 ∧ a.2.2.n ≤ i ∧ ∀ k : Int, 0 ≤ k → k < 16 → (a.2.2.at_ k = true ↔ Mem a.2.1.Got k)) (fun x => x = true) (fun i hi a ⟨h1, h2, h3, h4⟩ => by
      obtain ⟨d, r, m⟩ := a
      simp only at h1 h2 h3 h4
      unfold law11_ReceiverOnce_l2 law11_ReceiverOnce_j1
      simp only
      obtain ⟨x, d2, e2, x0, x1, hd2⟩ := next_spec h1 (n := 5) (by decide) (by decide)
      have ed : (⟨d.L, d.At⟩ : Dice) = d := rfl
      have er : (⟨r.Got, r.Lost⟩ : Receiver) = r := rfl
      rw [if_pos (by simp; omega), ed, er, e2, w64_n (by omega)]
      simp only [Option.bind_some]
      cases hx : (x == 0) with
      | true =>
        simp only [if_true]
        obtain ⟨y, d3, e3, y0, y1, hd3⟩ := next_spec hd2 (n := 14) (by decide) (by decide)
        obtain ⟨z, ez, _, bz, gz, _⟩ := lose_spec h2 (by decide) (by decide) (k := y) y0 (by omega)
        rw [e3]
        simp only [Option.bind_some]
        rw [ez]
        refine ⟨(d3, z, m), rfl, hd3, bz, by simp only; omega, fun k k0 k1 => ?_⟩
        rw [gz]
        exact h4 k k0 k1
      | false =>
        simp only [Bool.false_eq_true, if_false]
        obtain ⟨y, d3, e3, y0, y1, hd3⟩ := next_spec hd2 (n := 14) (by decide) (by decide)
        obtain ⟨z, o, ez, _, bz, gz, lz, ho⟩ := accept_spec h2 (by decide) (by decide) (k := y) y0 y1
        obtain ⟨la, lb⟩ := bz.lens (by decide) (by decide)
        obtain ⟨c, ec, hc⟩ := rhas_spec z.Got y (by omega)
        obtain ⟨f, ef, hf⟩ := rhas_spec z.Lost y (by omega)
        have c1 : c = true := hc.2 ((gz y).2 (.inr rfl))
        have f1 : f = false := by
          cases f with
          | false => rfl
          | true => exact absurd rfl ((lz y).1 (hf.1 rfl)).2
        subst c1 f1
        have hy : (o == m.at_ y) = false := by
          rw [beq_eq_false_iff_ne]
          intro e
          have h5 := h4 y y0 (by omega)
          rw [← e, ho] at h5
          by_cases hM : Mem r.Got y
          · exact (h5.2 hM) hM
          · exact hM (h5.1 hM)
        rw [e3]
        simp only [Option.bind_some]
        rw [ez]
        simp only [Option.bind_some, bne_self_eq_false, Bool.false_eq_true, if_false]
        rw [mget_at m y0 (by omega)]
        simp only [Option.bind_some, hy, Bool.false_eq_true, if_false]
        rw [ec, ef, (valid_br bz (by decide) (by decide)).1, mput_at m true y0 (by omega) (by omega)]
        simp only [Option.bind_some, Bool.not_true, Bool.false_eq_true, if_false]
        refine ⟨(d3, z, ⟨m.n + 1, fun k => if k = y then true else m.at_ k⟩), rfl, hd3, bz, by simp only; omega, fun k k0 k1 => ?_⟩
        simp only
        rw [gz]
        by_cases hk : k = y
        · simp [hk]
        · rw [if_neg hk, h4 k k0 k1]
          simp [hk]) (fun a ⟨h1, h2, h3, h4⟩ => by
      unfold law11_ReceiverOnce_l2
      simp only
      rw [if_neg (by simp), once_end h2 h4]
      exact ⟨true, rfl, rfl⟩) (⟨t, 0⟩, ⟨[], []⟩, ⟨0, fun _ => false⟩) ⟨DOK.roll hl, BR.zero.wide (by decide), Nat.le_refl _, fun k _ _ => ⟨fun h => (by cases h), fun h => absurd h Mem.nil⟩⟩
  exact e

end Go.Proofs.Ytiihddcppmjbaaa.Sh

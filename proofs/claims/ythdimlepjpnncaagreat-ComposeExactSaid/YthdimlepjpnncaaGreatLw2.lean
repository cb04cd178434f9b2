/- The plain law: what the plain programs compute, put together in one text. -/
import Derived.Test.YthdimlepjpnncaaGreatLw1
/- The law ComposeExact as a plain program: it is true at every input. -/
namespace Go.Proofs.YthdimlepjpnncaaGreat.Sh
open Go
set_option linter.unusedVariables false
set_option linter.unusedSimpArgs false
theorem ins_loop {l : List Record} {d : Dice} (hl : Sm15 l) (l6 : l.length ≤ 6) (s6 : ∀ r ∈ l, r.Samples.length ≤ 6) {y : List Record} (hy : Sm15 y) {sv : List Int × Int × Int} (hs : 0 ≤ sv.2.2 ∧ sv.2.2 ≤ 100) (rv : Int × Dice)
  {L : List Record} (hL : ∀ r ∈ L, RSm r ∧ r.Samples.length ≤ 31) (hLl : L.length ≤ 100) : whileM (law15_ComposeExact_l22 (l, d) sv y rv L) 0 = some (.inl (rv.2.L, rv.2.At, sv.2.2 + 1)) := by
 refine whileM_for' (fun i => (i : Int)) L.length _ rfl (fun i hi => ?_) ?_
 ·obtain ⟨h1, h2⟩ := hL _ (List.getElem_mem hi)
  obtain ⟨o, ok, e, e1, e2, ol, os⟩ := insert2 hy h1 h2
  unfold law15_ComposeExact_l22
  rw [if_pos (decide_eq_true (by omega)), ix_nat _ _ hi]
  simp only [Option.bind_some]
  rw [e1, e2]
  simp only [Option.bind_some]
  rw [if_neg (by simp), rSameList_refl (by omega) (fun r hr => by have := os r hr; omega)]
  simp only [Option.bind_some, Bool.not_true, Bool.false_eq_true, if_false]
  rw [w64_n (by omega)]
 ·obtain ⟨z, e, e1, e2, zl⟩ := latest2 hl hy l6 s6
  unfold law15_ComposeExact_l22
  rw [if_neg (by simp)]
  simp only
  rw [e1, e2]
  simp only [Option.bind_some]
  rw [if_neg (by simp), same_spec z z (by omega), decide_eq_true rfl]
  simp only [Option.bind_some, Bool.not_true, Bool.false_eq_true, if_false]
  rw [w64_id (by omega) (by omega)]
  rfl
theorem val_loop {l o : List Record} {d d' : Dice} (hl : Sm15 l) (l6 : l.length ≤ 6) (s6 : ∀ r ∈ l, r.Samples.length ≤ 6) (ho : Sm15 o) {y : List Record} (hy : Sm15 y) {sv : List Int × Int × Int} (hs : 0 ≤ sv.2.2 ∧ sv.2.2 ≤ 100) (x : Int) (rv1 rv : Int × Dice) :
  whileM (law15_ComposeExact_l20 x (l, d) (o, d') sv y rv1 rv) 0 = some (.inl (rv.2.L, rv.2.At, sv.2.2 + 1)) := by
 have hll := hl.len
 have hol := ho.len
 refine whileM_for' (fun i => (i : Int)) 3 _ rfl (fun i hi => ?_) ?_
 ·obtain ⟨n, hn⟩ : ∃ n, ([x, (w64 (1000000000000 + (w64 (125000 * rv1.1)))), (w64 (1000000000000 + (w64 (250000 * rv.1))))] : List Int)[i]'(by simpa using hi) = n := ⟨_, rfl⟩
  obtain ⟨v, e1, e2⟩ := value2 hy n
  unfold law15_ComposeExact_l20
  rw [if_pos (by simp; omega), ix_nat _ _ (by simpa using hi), hn]
  simp only [Option.bind_some]
  rw [e1, e2]
  simp only [Option.bind_some]
  rw [if_neg (by simp), w64_n (by omega)]
 ·unfold law15_ComposeExact_l20
  rw [if_neg (by simp)]
  simp only
  rw [appM_one _ _ _ (by simp; omega) (by decide)]
  simp only [Option.bind_some, List.nil_append]
  rw [appM_one _ _ _ (by omega) (by decide)]
  simp only [Option.bind_some]
  rw [ins_loop hl l6 s6 hy hs rv (fun r hr => by
   rcases List.mem_append.1 hr with hr | hr
   ·exact ⟨ho.rs r hr, ho.sm r hr⟩
   ·exact ⟨hl.rs r hr, hl.sm r hr⟩) (by rw [List.length_append]; omega)]
  rfl
theorem all_lists {l o odd raw more : List Record} {d d' : Dice} (hl : Sm15 l) (l6 : l.length ≤ 6) (s6 : ∀ r ∈ l, r.Samples.length ≤ 6) (ho : Sm15 o) (h1 : Sm15 odd) (h2 : Sm15 raw) (h3 : Sm15 more) (x : Int) (d0 : Dice) (hd : DOK d0) :
  whileM (law15_ComposeExact_l14 raw x (l, d) (o, d') odd more) (d0.L, d0.At, 0) = some true := by
 obtain ⟨Y, hY⟩ : ∃ Y, ([l, odd, raw, more] : List (List Record)) = Y := ⟨_, rfl⟩
 have hYl : Y.length = 4 := by rw [← hY]; rfl
 have hYs : ∀ y ∈ Y, Sm15 y := fun y hy => by
  rw [← hY] at hy
  simp only [List.mem_cons, List.not_mem_nil, or_false] at hy
  rcases hy with rfl | rfl | rfl | rfl <;> assumption
 obtain ⟨r, er, hr⟩ := loop_foldE (body := law15_ComposeExact_l14 raw x (l, d) (o, d') odd more) (fun (a : List Int × Int) i => (a.1, a.2, i)) 4 (fun i a => DOK ⟨a.1, a.2⟩) (fun r => r = true) (fun i hi a hI => by
  have hy := hYs Y[i] (List.getElem_mem (by omega))
  obtain ⟨p, e, p1, p2, pl, ps⟩ := order2 hy
  obtain ⟨m, f, m1, m2, ml, ms⟩ := compose2 hy
  obtain ⟨c, g, c1, c2, cl⟩ := covered2 hy
  obtain ⟨v1, v2⟩ := valid2 hy
  obtain ⟨n1, d1, q1, _, _, hd1⟩ := next_spec hI (n := 120) (by decide) (by decide)
  obtain ⟨n2, d2, q2, _, _, hd2⟩ := next_spec hd1 (n := 60) (by decide) (by decide)
  left
  refine ⟨(d2.L, d2.At), ?_, hd2⟩
  unfold law15_ComposeExact_l14
  rw [hY]
  simp only
  rw [if_pos (by simp; omega), ix_nat _ _ (show i < Y.length by omega)]
  simp only [Option.bind_some]
  rw [p1, p2, m1, m2, c1, c2, v1, v2]
  simp only [Option.bind_some]
  rw [if_neg (by simp), rSameList_refl (by omega) (fun r hr => by have := ps r hr; omega)]
  simp only [Option.bind_some]
  rw [if_neg (by simp), rSameList_refl (by omega) (fun r hr => by have := ms r hr; omega)]
  simp only [Option.bind_some]
  rw [if_neg (by simp), same_spec c c (by omega), decide_eq_true rfl]
  simp only [Option.bind_some, Bool.not_true, Bool.false_eq_true, if_false, beq_self_eq_true]
  rw [q1]
  simp only [Option.bind_some]
  rw [q2]
  simp only [Option.bind_some]
  rw [val_loop hl l6 s6 ho hy (by simp only; omega) x (n1, d1) (n2, d2)]
  simp only
  rw [show (i : Int) + 1 = ((i + 1 : Nat) : Int) by omega]) (fun a hI => by
  unfold law15_ComposeExact_l14
  rw [hY]
  simp only
  rw [if_neg (by simp; omega), sane_true]
  exact ⟨true, rfl, rfl⟩) (d0.L, d0.At) hd
 rw [er, hr]
theorem law15_ComposeExact_true (t : List Int) (raw : List Record) (x : Int) {P0 P2 : Prop} {Q : Record → Prop} (_ : P0)
  (hraw : (raw.length : Int) ≤ 140737488355328 ∧ ∀ y ∈ raw, (((y.Source.Network.size : Int) ≤ 9223372036854775807) ∧ ((y.Source.Station.size : Int) ≤ 9223372036854775807) ∧ ((y.Source.Location.size : Int) ≤ 9223372036854775807) ∧ ((y.Source.Channel.size : Int) ≤ 9223372036854775807)) ∧ Q y)
  (_ : P2) : law15_ComposeExact t raw x = some true := by
 unfold law15_ComposeExact
 rw [light_spec]
 simp only [Option.bind_some]
 by_cases hlr : t.length ≤ 500 ∧ raw.length ≤ 10
 case neg =>
  rw [if_pos, sane_true]
  ·rfl
  ·by_cases h1 : t.length ≤ 500
   ·have : ¬ raw.length ≤ 10 := fun h => hlr ⟨h1, h⟩
    simp
    right
    omega
   ·simp
    left
    omega
 obtain ⟨hl, hrl⟩ := hlr
 rw [if_neg (by simp; omega)]
 obtain ⟨r, er, hr⟩ := loop_foldE (body := law15_ComposeExact_l2 t raw x) (fun (_ : Unit) i => i) raw.length (fun i _ => ∀ j (h : j < raw.length), j < i → raw[j].Samples.length ≤ 30) (fun r => r = true) (fun i hi a hI => by
  unfold law15_ComposeExact_l2
  rw [if_pos (decide_eq_true (by omega)), ix_nat _ _ hi]
  simp only [Option.bind_some]
  by_cases h20 : raw[i].Samples.length ≤ 30
  ·left
   rw [if_neg (by simp; omega), w64_n (by omega)]
   refine ⟨(), rfl, fun j hj hji => ?_⟩
   by_cases e : j = i
   ·subst e; exact h20
   ·exact hI j hj (by omega)
  ·right
   rw [if_pos (decide_eq_true (by omega)), sane_true]
   exact ⟨_, rfl, rfl⟩) (fun a hI => by
  unfold law15_ComposeExact_l2
  rw [if_neg (by simp)]
  have hraw2 : Sm15 raw := ⟨fun r hr => by
   obtain ⟨j, hj, rfl⟩ := List.mem_iff_getElem.1 hr
   have h1 := (hraw.2 _ hr).1
   have h2 := hI j hj hj
   exact ⟨⟨by omega, by omega, by omega, by omega⟩, by omega⟩, by omega, fun r hr => by
   obtain ⟨j, hj, rfl⟩ := List.mem_iff_getElem.1 hr
   have := hI j hj hj
   omega⟩
  simp only [made_Roll, Option.bind_some]
  obtain ⟨l, d1, s, e1, hs, hq, hln, hd1⟩ := drecords_spec (DOK.roll hl) (n := 6) (by decide) (by decide)
  rw [e1]
  simp only [Option.bind_some]
  obtain ⟨o, d2, s', e2, hs', hq', hon, hd2⟩ := drecords_spec hd1 (n := 3) (by decide) (by decide)
  rw [e2]
  simp only [Option.bind_some]
  rw [appM_one _ _ _ (by simp; omega) (by decide)]
  simp only [Option.bind_some, List.nil_append]
  have hv : VS15 l := vs_rq hs hq (by omega)
  have hv' : VS15 o := vs_rq hs' hq' (by omega)
  have s6 : ∀ r ∈ l, r.Samples.length ≤ 6 := fun r hr => by have := (hq r hr).l1; omega
  have hlS : Sm15 l := ⟨fun r hr => (hv.rf r hr).sm, by omega, fun r hr => by have := s6 r hr; omega⟩
  have hoS : Sm15 o := ⟨fun r hr => (hv'.rf r hr).sm, by omega, fun r hr => by have := (hq' r hr).l1; omega⟩
  have hmS : Sm15 (l ++ o) := ⟨fun r hr => by
   rcases List.mem_append.1 hr with hr | hr
   ·exact hlS.rs r hr
   ·exact hoS.rs r hr, by rw [List.length_append]; omega, fun r hr => by
   rcases List.mem_append.1 hr with hr | hr
   ·exact hlS.sm r hr
   ·exact hoS.sm r hr⟩
  have fin : ∀ {odd : List Record} {d3 : Dice}, Sm15 odd → DOK d3 → law15_ComposeExact_j1 raw x (l, d1) (o, d2) d3.L d3.At odd = some true := fun {odd d3} h3 hd3 => by
   unfold law15_ComposeExact_j1
   simp only
   rw [appM_one _ _ _ (by simp; omega) (by decide)]
   simp only [Option.bind_some, List.nil_append]
   rw [appM_one _ _ _ (by omega) (by decide)]
   simp only [Option.bind_some]
   exact all_lists hlS (by omega) s6 hoS h3 hraw2 hmS x d3 hd3
  by_cases hn : 0 < l.length
  ·rw [if_pos (decide_eq_true (by omega))]
   obtain ⟨n, d3, e3, n0, n1, hd3⟩ := next_spec hd2 (n := (l.length : Int)) (by omega) (by omega)
   rw [e3]
   simp only [Option.bind_some]
   obtain ⟨k, rfl⟩ : ∃ k : Nat, n = (k : Int) := ⟨n.toNat, by omega⟩
   have hk : k < l.length := by omega
   rw [ix_nat _ _ hk]
   simp only [Option.bind_some]
   have hx := List.getElem_mem hk
   obtain ⟨z, d4, e4, hz2, hz3, hd4⟩ := oddrec_spec hd3 (r := l[k]) (hlS.rs _ hx) (by have := hlS.sm _ hx; omega)
   rw [e4]
   simp only [Option.bind_some]
   rw [setM_at _ _ _ (by omega) (by omega)]
   simp only [Option.bind_some]
   have h6 := s6 _ hx
   have hodd : Sm15 (l.set ((k : Nat) : Int).toNat z) := ⟨fun r hr => by
    rcases List.mem_or_eq_of_mem_set hr with hr | rfl
    ·exact hlS.rs r hr
    ·exact hz2, by rw [List.length_set]; omega, fun r hr => by
    rcases List.mem_or_eq_of_mem_set hr with hr | e
    ·exact hlS.sm r hr
    ·rw [e]
     omega⟩
   rw [fin hodd hd4]
   exact ⟨true, rfl, rfl⟩
  ·rw [if_neg (fun h => hn (by have := of_decide_eq_true h; omega)), fin hlS hd2]
   exact ⟨true, rfl, rfl⟩) () (fun j _ h => by omega)
 rw [er, hr]
end Go.Proofs.YthdimlepjpnncaaGreat.Sh

/- The law ComposeOrder as a plain program: it is true at every input. -/
import Derived.Test.YthdimlepjpnncaaGreatComp3
import Derived.Test.YthdimlepjpnncaaGreatDiceRecs
namespace Go.Proofs.YthdimlepjpnncaaGreat.Sh
open Go
set_option linter.unusedVariables false
set_option linter.unusedSimpArgs false

theorem vs_of {l : List Record} {s : SourceID} (hs : srcB s = true) (h : ∀ r ∈ l, RQ s 6 r) (hl : l.length ≤ 100) : VS15 l :=
  ⟨⟨fun r hr => (h r hr).rf hs (by decide), fun r hr q hq => (h r hr).src.trans (h q hq).src.symm⟩, hl, fun r hr => by have := (h r hr).l1; omega⟩
theorem Insert_ok {g : List Record} {r : Record} (h : VS15 (g ++ [r])) (hg : g.Pairwise (fun a b => cmpR a b < 0)) : ∃ b, compose_Insert g r = some (sset cmpR (g ++ [r]), b, 0) := by
  have hl := h.len
  rw [List.length_append, List.length_singleton] at hl
  have hv : VL (r :: g) := h.toVL.sub fun q hq => by
    rcases List.mem_cons.1 hq with rfl | hq
    · exact List.mem_append_right _ List.mem_cons_self
    · exact List.mem_append_left _ hq
  have hs := sset_len cmpR (g ++ [r])
  rw [List.length_append, List.length_singleton] at hs
  unfold compose_Insert
  rw [appM_one _ _ _ (by simp; omega) (by decide)]
  simp only [Option.bind_some]
  rw [show [r] ++ g = r :: g from rfl, alike_ok hv (by simp; omega)]
  simp only [Option.bind_some, Bool.not_true, Bool.false_eq_true, if_false]
  rw [order_ok (hv.sub fun q hq => List.mem_cons_of_mem _ hq) (by omega), sset_self cmpR_cmp (fun _ _ => cmpR_eq) hg]
  simp only [Option.bind_some]
  rw [appM_one _ _ _ (by simp; omega) (by decide)]
  simp only [Option.bind_some]
  rw [order_ok h.toVL (by simp; omega)]
  simp only [Option.bind_some]
  rw [if_neg (by simp; omega)]
  exact ⟨_, rfl⟩
theorem law15_ComposeOrder_true (t : List Int) : law15_ComposeOrder t = some true := by
  unfold law15_ComposeOrder
  rw [light_spec]
  simp only [Option.bind_some]
  by_cases hl : t.length ≤ 500
  case neg => rw [decide_eq_false hl, sane_true]; rfl
  rw [decide_eq_true hl]
  simp only [Bool.not_true, Bool.false_eq_true, if_false, made_Roll, Option.bind_some]
  obtain ⟨l, d1, s, e1, hs, hq, hn, hd1⟩ := drecords_spec (DOK.roll hl) (n := 6) (by decide) (by decide)
  rw [e1]; simp only [Option.bind_some]
  rw [w64_id (by omega) (by omega)]
  -- the list mixed
  obtain ⟨mx, em, hm1, hm2, hm3⟩ := loop_ex (b1 := law15_ComposeOrder_l1 (l, d1))
    (fun m st => DOK ⟨st.1, st.2.1⟩ ∧ ∃ k : Nat, st.2.2.2 = (k : Int) - 1 ∧ k ≤ l.length ∧ m = k ∧ (∀ r ∈ st.2.2.1, r ∈ l) ∧ (∀ r ∈ l.drop k, r ∈ st.2.2.1) ∧ st.2.2.1.length + 2 * k ≤ 2 * l.length)
    (fun mx => (∀ r ∈ mx, r ∈ l) ∧ (∀ r ∈ l, r ∈ mx) ∧ mx.length ≤ 2 * l.length) (by
      rintro m ⟨L, At, mx, i⟩ ⟨dok, k, hi, hk, hm, h1, h2, h3⟩
      simp only at dok hi h1 h2 h3
      subst hi
      unfold law15_ComposeOrder_l1
      simp only
      by_cases hk0 : 0 < k
      · left
        rw [if_pos (decide_eq_true (by omega)), show (k : Int) - 1 = ((k - 1 : Nat) : Int) by omega, ix_nat _ _ (show k - 1 < l.length by omega)]
        simp only [Option.bind_some]
        rw [appM_one _ _ _ (by simp; omega) (by decide)]
        simp only [Option.bind_some]
        obtain ⟨z, d2, e2, z0, z1, hd2⟩ := next_spec dok (n := 3) (by decide) (by decide)
        rw [e2]
        simp only [Option.bind_some]
        have hdr : l.drop (k - 1) = l[k - 1] :: l.drop k := by
          rw [List.drop_eq_getElem_cons (show k - 1 < l.length by omega), show k - 1 + 1 = k by omega]
        have j1 : ∀ (L' : List Int) (At' : Int) (mx' : List Record), DOK ⟨L', At'⟩ → (∀ r ∈ mx', r ∈ l) → (∀ r ∈ l.drop (k - 1), r ∈ mx') → mx'.length ≤ mx.length + 2 → ∃ st' n', law15_ComposeOrder_j1 (L, At, mx, ((k - 1 : Nat) : Int)) L' At' mx' = some (.inl st') ∧ (DOK ⟨st'.1, st'.2.1⟩ ∧ ∃ k : Nat, st'.2.2.2 = (k : Int) - 1 ∧ k ≤ l.length ∧ n' = k ∧ (∀ r ∈ st'.2.2.1, r ∈ l) ∧ (∀ r ∈ l.drop k, r ∈ st'.2.2.1) ∧ st'.2.2.1.length + 2 * k ≤ 2 * l.length) ∧ n' < m := by
          intro L' At' mx' hd' g1 g2 g3
          unfold law15_ComposeOrder_j1
          simp only [Option.bind_some]
          rw [w64_id (by omega) (by omega)]
          exact ⟨_, k - 1, rfl, ⟨hd', k - 1, by simp only, by omega, rfl, g1, g2, by simp only; omega⟩, by omega⟩
        have hm1' : ∀ r ∈ mx ++ [l[k - 1]], r ∈ l := fun r hr => by
          rcases List.mem_append.1 hr with hr | hr
          · exact h1 r hr
          · rcases List.mem_singleton.1 hr with rfl; exact List.getElem_mem _
        have hm2' : ∀ r ∈ l.drop (k - 1), r ∈ mx ++ [l[k - 1]] := fun r hr => by
          rw [hdr] at hr
          rcases List.mem_cons.1 hr with rfl | hr
          · exact List.mem_append_right _ List.mem_cons_self
          · exact List.mem_append_left _ (h2 r hr)
        by_cases hz : (z == 0) = true
        · rw [if_pos hz]
          obtain ⟨x, d3, y, e3, g3, m3, hd3⟩ := pickl_spec (d := ⟨d2.L, d2.At⟩) hd2 l (l.length : Int) rfl (by omega) (by omega)
          rw [e3]
          simp only [Option.bind_some]
          rw [g3]
          simp only [Option.bind_some]
          rw [appM_one _ _ _ (by simp; omega) (by decide)]
          simp only [Option.bind_some]
          refine j1 _ _ _ hd3 (fun r hr => ?_) (fun r hr => List.mem_append_left _ (hm2' r hr)) (by simp)
          rcases List.mem_append.1 hr with hr | hr
          · exact hm1' r hr
          · rcases List.mem_singleton.1 hr with rfl; exact m3
        · rw [if_neg hz]
          exact j1 _ _ _ hd2 hm1' hm2' (by simp)
      · right
        rw [if_neg (by simp; omega)]
        have : k = 0 := by omega
        subst this
        exact ⟨_, rfl, h1, h2, by simpa using h3⟩) l.length (d1.L, d1.At, [], (l.length : Int) - 1) ⟨hd1, l.length, rfl, Nat.le_refl _, rfl, by simp, by simp, by simp⟩
  rw [em]
  simp only [Option.bind_some]
  have hvl : VS15 l := vs_of hs hq (by omega)
  have hvm : VS15 mx := vs_of hs (fun r hr => hq r (hm1 r hr)) (by omega)
  -- the list grown
  refine whileM_for' (fun i => (sset cmpR (mx.take i), (i : Int))) mx.length _ (by simp [sset]) (fun i hi => ?_) ?_
  · have hsl := sset_len cmpR (mx.take i)
    rw [List.length_take] at hsl
    have hmem : ∀ r ∈ sset cmpR (mx.take i) ++ [mx[i]], r ∈ mx := fun r hr => by
      rcases List.mem_append.1 hr with hr | hr
      · exact List.mem_of_mem_take (mem_ss.1 hr)
      · rcases List.mem_singleton.1 hr with rfl; exact List.getElem_mem _
    have hv : VS15 (sset cmpR (mx.take i) ++ [mx[i]]) := vs_of hs (fun r hr => hq r (hm1 r (hmem r hr))) (by simp; omega)
    obtain ⟨b, eb⟩ := Insert_ok hv (sset_pw cmpR_cmp (fun _ _ => cmpR_eq) _)
    unfold law15_ComposeOrder_l3
    simp only
    rw [if_pos (decide_eq_true (by omega)), ix_nat _ _ hi]
    simp only [Option.bind_some]
    rw [eb]
    simp only [Option.bind_some, bne_self_eq_false, Bool.false_eq_true, if_false]
    rw [w64_id (by omega) (by omega), take_one hi]
    have : sset cmpR (sset cmpR (mx.take i) ++ [mx[i]]) = sset cmpR (mx.take i ++ [mx[i]]) := sset_ext cmpR_cmp (fun _ _ => cmpR_eq) fun x => by
      rw [List.mem_append, List.mem_append, mem_ss]
    rw [this]
    rfl
  · unfold law15_ComposeOrder_l3
    simp only
    rw [if_neg (by simp), List.take_length]
    have hsl := sset_len cmpR mx
    have hvg : VS15 (sset cmpR mx) := vs_of hs (fun r hr => hq r (hm1 r (mem_ss.1 hr))) (by omega)
    have hss : sset cmpR l = sset cmpR mx := sset_ext cmpR_cmp (fun _ _ => cmpR_eq) fun x => ⟨hm2 x, hm1 x⟩
    have hsg : sset cmpR (sset cmpR mx) = sset cmpR mx := sset_ext cmpR_cmp (fun _ _ => cmpR_eq) fun x => mem_ss
    obtain ⟨m1, c1, _, o1⟩ := Comp_ok hvl
    obtain ⟨m2, c2, _, o2⟩ := Comp_ok hvm
    obtain ⟨m3, c3, _, o3⟩ := Comp_ok hvg
    rw [c1, c2, c3, Order_ok hvl]
    simp only [Option.bind_some]
    have e12 : m1 = m2 := o1.uniq o2 hss
    have e13 : m1 = m3 := o1.uniq o3 (by rw [hsg, hss])
    subst e12
    subst e13
    have hml := o1.len hvl
    have hmr : ∀ r ∈ m1, r.Samples.length ≤ 1000000000 := fun r hr => by have := (o1.rf hvl.toVL hr).l1; omega
    have hgr : ∀ r ∈ sset cmpR mx, r.Samples.length ≤ 1000000000 := fun r hr => by have := hvg.smp r hr; omega
    rw [hss, rSameList_refl (by omega) hmr, rSameList_refl (by omega) hgr, sane_true]
    rfl

end Go.Proofs.YthdimlepjpnncaaGreat.Sh

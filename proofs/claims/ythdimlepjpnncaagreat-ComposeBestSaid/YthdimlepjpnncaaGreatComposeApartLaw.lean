/- The law ComposeApart as a plain program: it is true at every input. -/
import Derived.Test.YthdimlepjpnncaaGreatComp4
import Derived.Test.YthdimlepjpnncaaGreatDiceRecs
namespace Go.Proofs.YthdimlepjpnncaaGreat.Sh
open Go
set_option linter.unusedVariables false
set_option linter.unusedSimpArgs false

theorem cmpR_beg {a b : Record} (ha : RF a) (hb : RF b) (hs : a.Source = b.Source) (h : timeR a 0 < timeR b 0) : cmpR a b < 0 := by
  have e1 : begR a = timeR a 0 := by unfold begR; rw [if_pos (recB_iff.2 ha)]
  have e2 : begR b = timeR b 0 := by unfold begR; rw [if_pos (recB_iff.2 hb)]
  have e3 : cmpSrc a.Source b.Source = 0 := by rw [hs]; exact cmpSrc_cmp.refl _
  have e4 : cmpI (begR a) (begR b) = -1 := by unfold cmpI; rw [if_pos (by omega)]
  unfold cmpR andThen
  rw [if_neg (by simp [e3]), if_pos (show (fun a b : Record => cmpI (begR a) (begR b)) a b ≠ 0 by show cmpI (begR a) (begR b) ≠ 0; rw [e4]; decide)]
  show cmpI (begR a) (begR b) < 0
  rw [e4]; decide
theorem RunsOf.congr {k k' : Nat → Bool} {n : Nat} {P : List (Nat × Nat)} (h : RunsOf k n P) (hk : ∀ i, i < n → k' i = k i) : RunsOf k' n P := by
  refine ⟨fun p hp => ?_, h.asc, fun i hi hki => h.all i hi (by rw [← hk i hi]; exact hki)⟩
  obtain ⟨a, b, c, d⟩ := h.ok p hp
  refine ⟨a, b, fun i h1 h2 => by rw [hk i (by omega)]; exact c i h1 h2, ?_⟩
  by_cases e : p.2 = n
  · exact .inl e
  · rcases d with d | d
    · exact .inl d
    · exact .inr (by rw [hk _ (by omega)]; exact d)
/-- a group, and one that lies behind it -/
theorem apart_ok {a b x y z : List Record} {T : Int} (hv : VS15 (b ++ a)) (ha : ∀ r ∈ a, timeR r r.Samples.length ≤ T) (hb : ∀ r ∈ b, T < timeR r 0) (hx : CompOf a x) (hy : CompOf b y) (hz : CompOf (b ++ a) z) : z = x ++ y := by
  have va : VL a := hv.toVL.sub fun r hr => List.mem_append_right _ hr
  have vb : VL b := hv.toVL.sub fun r hr => List.mem_append_left _ hr
  have hlt : ∀ {r : Record}, RF r → timeR r 0 < timeR r r.Samples.length := fun h => h.lt (by have := h.l0; omega)
  have hnot : ∀ r ∈ a, r ∉ b := fun r hr hr' => by
    have h1 := ha r hr
    have h2 := hb r hr'
    have h3 := hlt (va.rf r hr)
    omega
  have hcross : ∀ r ∈ a, ∀ q ∈ b, cmpR r q < 0 := fun r hr q hq => by
    refine cmpR_beg (va.rf r hr) (vb.rf q hq) (hv.src r (List.mem_append_right _ hr) q (List.mem_append_left _ hq)) ?_
    have h1 := ha r hr
    have h2 := hb q hq
    have h3 := hlt (va.rf r hr)
    omega
  have hss : sset cmpR (b ++ a) = sset cmpR a ++ sset cmpR b := by
    refine asc_uniq cmpR_cmp (sset_pw cmpR_cmp (fun _ _ => cmpR_eq) _) ?_ fun r => ?_
    · rw [List.pairwise_append]
      exact ⟨sset_pw cmpR_cmp (fun _ _ => cmpR_eq) _, sset_pw cmpR_cmp (fun _ _ => cmpR_eq) _, fun r hr q hq => hcross r (mem_ss.1 hr) q (mem_ss.1 hq)⟩
    · rw [mem_ss, List.mem_append, List.mem_append, mem_ss, mem_ss]
      exact Or.comm
  open Classical in
  refine hz.eq (fun r => if r ∈ a then runsR (sset cmpR a) r else runsR (sset cmpR b) r) hv.toVL (fun r hr => ?_) ?_ ?_
  · have hr := mem_ss.1 hr
    by_cases hra : r ∈ a
    · rw [if_pos hra]
      have hR := va.rf r hra
      refine ((runsR_spec (sset cmpR a) hR).2.1).congr fun i hi => ?_
      rw [Bool.eq_iff_iff, keep_iff hv.toVL hr, keep_iff va hra]
      refine ⟨fun h q hq => h q (List.mem_append_right _ hq), fun h q hq hb' y h1 h2 h3 => ?_⟩
      rcases List.mem_append.1 hq with hq | hq
      · have g1 := ha r hra
        have g2 := hb q hq
        have g3 := hR.mono (i := (i : Int) + 1) (j := (r.Samples.length : Int)) (by omega)
        omega
      · exact h q hq hb' y h1 h2 h3
    · have hrb : r ∈ b := (List.mem_append.1 hr).resolve_right hra
      rw [if_neg hra]
      have hR := vb.rf r hrb
      refine ((runsR_spec (sset cmpR b) hR).2.1).congr fun i hi => ?_
      rw [Bool.eq_iff_iff, keep_iff hv.toVL hr, keep_iff vb hrb]
      refine ⟨fun h q hq => h q (List.mem_append_left _ hq), fun h q hq hb' y h1 h2 h3 => ?_⟩
      rcases List.mem_append.1 hq with hq | hq
      · exact h q hq hb' y h1 h2 h3
      · have g1 := ha q hq
        have g2 := hb r hrb
        have g3 := hR.mono (i := 0) (j := (i : Int)) (by omega)
        omega
  · rw [hss, List.flatMap_append]
    refine List.Perm.append ?_ ?_
    · rw [flatMap_congr' (g := partsR (sset cmpR a)) fun r hr => ?_]
      · exact hx.perm
      · rw [if_pos (mem_ss.1 hr)]; rfl
    · rw [flatMap_congr' (g := partsR (sset cmpR b)) fun r hr => ?_]
      · exact hy.perm
      · rw [if_neg (fun h => hnot r h (mem_ss.1 hr))]; rfl
  · rw [List.pairwise_append]
    refine ⟨hx.asc, hy.asc, fun p hp q hq => ?_⟩
    obtain ⟨r, hr, i, j, hij, hj, rfl, _⟩ := hx.mem va hp
    obtain ⟨s, hs, k, n, hkn, hn, rfl, _⟩ := hy.mem vb hq
    have hR := va.rf r hr
    have hS := vb.rf s hs
    refine Int.le_of_lt (cmpR_beg (hR.sub hij hj) (hS.sub hkn hn) (hv.src r (List.mem_append_right _ hr) s (List.mem_append_left _ hs)) ?_)
    rw [subR_time, subR_time]
    have g1 := ha r hr
    have g2 := hb s hs
    have g3 := hR.mono (i := (i : Int) + 0) (j := (r.Samples.length : Int)) (by omega)
    have g4 := hS.mono (i := 0) (j := (k : Int) + 0) (by omega)
    omega
def laterR (r : Record) : Record := ⟨r.Source, r.Start + 1000000000, r.First, r.Rate, r.Error, r.Run, r.Seq, r.Samples⟩
theorem later_ok {s : SourceID} {r : Record} (h : RG s 5 r) (hs : srcB s = true) : RF (laterR r) ∧ 1001000000000 ≤ timeR (laterR r) 0 := by
  have hr := h.rf hs (by decide)
  have hq := h.rq.end_ (by decide)
  have s0 := h.s0; have s1 := h.s1
  refine ⟨⟨hr.src, hr.l0, hr.l1, hr.f0, hr.f1, hr.e0, hr.e1, hr.r0, hr.r1, hr.q0, hr.q1, hr.rv, by simp only [laterR]; omega, by simp only [laterR]; omega, ?_, hr.smp⟩, ?_⟩
  · simp only [laterR]; omega
  · have n0 := h.rv.n0; have d0 := h.rv.d0; have f0 := h.f0
    have : 0 ≤ (r.First + 0) * (r.Rate.Den * 1000000) / r.Rate.Num := Int.ediv_nonneg (Int.mul_nonneg (by omega) (by omega)) (by omega)
    simp only [timeR, laterR]
    omega
theorem law15_ComposeApart_true (t : List Int) : law15_ComposeApart t = some true := by
  unfold law15_ComposeApart
  rw [light_spec]
  simp only [Option.bind_some]
  by_cases hl : t.length ≤ 500
  case neg => rw [decide_eq_false hl, sane_true]; rfl
  rw [decide_eq_true hl]
  simp only [Bool.not_true, Bool.false_eq_true, if_false, made_Roll, Option.bind_some]
  obtain ⟨a, d1, s, e1, hs, hq, hn, hd1⟩ := drecords_spec (DOK.roll hl) (n := 5) (by decide) (by decide)
  rw [e1]; simp only [Option.bind_some]
  by_cases ha0 : a.length = 0
  · rw [if_pos (by simp [ha0]), sane_true]; rfl
  rw [if_neg (by simp; intro h; exact ha0 (by simp [h]))]
  obtain ⟨k, d2, e2, k0, k1, hd2⟩ := next_spec hd1 (n := 4) (by decide) (by decide)
  rw [e2]; simp only [Option.bind_some]
  have hsrc0 : (a[0]'(by omega)).Source = s := (hq _ (List.getElem_mem _)).src
  obtain ⟨b, eb, hb, hbn⟩ := loop_ex (b1 := law15_ComposeApart_l1 (a, d1))
    (fun m st => DOK ⟨st.1, st.2.1⟩ ∧ (∀ r ∈ st.2.2.1, ∃ r0, RG s 5 r0 ∧ r = laterR r0) ∧ 0 ≤ st.2.2.2 ∧ st.2.2.2 + st.2.2.1.length ≤ 3 ∧ m = st.2.2.2.toNat)
    (fun b => (∀ r ∈ b, ∃ r0, RG s 5 r0 ∧ r = laterR r0) ∧ b.length ≤ 3) (by
      rintro m ⟨L, At, b, i⟩ ⟨dok, hr, i0, i1, hm⟩
      simp only at dok hr i0 i1 hm
      unfold law15_ComposeApart_l1
      simp only
      by_cases hi : 0 < i
      · left
        rw [if_pos (decide_eq_true hi), show ix a 0 = some (a[0]'(by omega)) from ix_nat a 0 (by omega)]
        simp only [Option.bind_some]
        rw [hsrc0]
        obtain ⟨r, d3, e3, hrg, hd3⟩ := drecord_spec dok s (n := 5) (by decide) (by decide)
        rw [e3]
        simp only [Option.bind_some]
        have s0 := hrg.s0; have s1 := hrg.s1
        rw [w64_id (x := r.Start + 1000000000) (by omega) (by omega), appM_one _ _ _ (by simp; omega) (by decide)]
        simp only [Option.bind_some]
        rw [w64_id (x := i - 1) (by omega) (by omega)]
        refine ⟨_, (i - 1).toNat, rfl, ⟨hd3, fun q hq' => ?_, by simp only; omega, by simp; omega, rfl⟩, by omega⟩
        rcases List.mem_append.1 hq' with hq' | hq'
        · exact hr q hq'
        · rcases List.mem_singleton.1 hq' with rfl
          exact ⟨r, hrg, rfl⟩
      · right
        rw [if_neg (by simpa using hi)]
        exact ⟨_, rfl, hr, by omega⟩) k.toNat (d2.L, d2.At, [], k) ⟨hd2, by simp, k0, by simp; omega, rfl⟩
  rw [eb]
  simp only [Option.bind_some]
  have hbr : ∀ r ∈ b, RF r ∧ 1001000000000 ≤ timeR r 0 ∧ r.Source = s ∧ r.Samples.length ≤ 5 := fun r hr => by
    obtain ⟨r0, h0, rfl⟩ := hb r hr
    obtain ⟨h1, h2⟩ := later_ok h0 hs
    exact ⟨h1, h2, h0.src, by have := h0.l1; simp only [laterR]; omega⟩
  have hall : VS15 (b ++ a) := by
    refine ⟨⟨fun r hr => ?_, fun r hr q hq' => ?_⟩, by simp; omega, fun r hr => ?_⟩
    · rcases List.mem_append.1 hr with hr | hr
      · exact (hbr r hr).1
      · exact (hq r hr).rf hs (by decide)
    · have e : ∀ r ∈ b ++ a, r.Source = s := fun r hr => by
        rcases List.mem_append.1 hr with hr | hr
        · exact (hbr r hr).2.2.1
        · exact (hq r hr).src
      exact (e r hr).trans (e q hq').symm
    · rcases List.mem_append.1 hr with hr | hr
      · have := (hbr r hr).2.2.2; omega
      · have := (hq r hr).l1; omega
  have hva : VS15 a := ⟨hall.toVL.sub fun r hr => List.mem_append_right _ hr, by omega, fun r hr => hall.smp r (List.mem_append_right _ hr)⟩
  have hvb : VS15 b := ⟨hall.toVL.sub fun r hr => List.mem_append_left _ hr, by omega, fun r hr => hall.smp r (List.mem_append_left _ hr)⟩
  obtain ⟨x, cx, _, ox⟩ := Comp_ok hva
  obtain ⟨y, cy, _, oy⟩ := Comp_ok hvb
  obtain ⟨z, cz, _, oz⟩ := Comp_ok hall
  rw [cx, cy]
  simp only [Option.bind_some]
  rw [appM_one _ _ _ (by simp; omega) (by decide)]
  simp only [Option.bind_some, List.nil_append]
  rw [appM_one _ _ _ (by omega) (by decide)]
  simp only [Option.bind_some]
  rw [cz]
  simp only [Option.bind_some, beq_self_eq_true, Bool.and_self, if_true]
  have lx := ox.len hva
  have ly := oy.len hvb
  rw [appM_one _ _ _ (by simp; omega) (by decide)]
  simp only [Option.bind_some, List.nil_append]
  rw [appM_one _ _ _ (by omega) (by decide)]
  simp only [Option.bind_some]
  have hzz : z = x ++ y := apart_ok (T := 1000900000000) hall (fun r hr => by
    have h := hq r hr
    have he := h.end_ (by decide)
    have s1 := h.s1
    simp only [timeR]
    omega) (fun r hr => by have := (hbr r hr).2.1; omega) ox oy oz
  rw [hzz, rSameList_refl (by simp; omega) (fun r hr => by
    rcases List.mem_append.1 hr with hr | hr
    · have := (ox.rf hva.toVL hr).l1; omega
    · have := (oy.rf hvb.toVL hr).l1; omega), sane_true]
  rfl

end Go.Proofs.YthdimlepjpnncaaGreat.Sh

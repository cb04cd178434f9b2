/- The sort as a plain program over any type, part 2: the heap sort. -/
import Derived.Test.YtiihddcppmjbaaaSortP
namespace Go.Proofs.Ytiihddcppmjbaaa.Sh
open Go
set_option linter.unusedVariables false
set_option linter.unusedSimpArgs false

section
variable {α : Type} {P : α → Prop} {cmp : α → α → Option Int} {lt : α → α → Bool}

theorem cmp_at (hc : CmpOK P cmp lt) {l : List α} (hP : ∀ x ∈ l, P x) {i j : Nat} (hi : i < l.length) (hj : j < l.length) : ∃ c, cmp l[i] l[j] = some c ∧ decide (c < 0) = lt l[i] l[j] :=
  hc.run _ _ (hP _ (List.getElem_mem hi)) (hP _ (List.getElem_mem hj))
theorem w64_nat {x : Int} {n : Nat} (h : x = (n : Int)) (hn : n ≤ 9000000000000000000) : w64 x = (n : Int) := by rw [h, w64_id (by omega) (by omega)]
theorem some_at {l : List α} {i : Nat} (h : i < l.length) : l[i]? = some l[i] := List.getElem?_eq_getElem h
theorem at_some {l : List α} {i : Nat} {x : α} (h : l[i]? = some x) : ∃ hi : i < l.length, l[i] = x := List.getElem?_eq_some_iff.1 h

/-- a heap from lo on -/
def HP (lt : α → α → Bool) (f lo hi : Nat) (l : List α) : Prop := ∀ k c x y, lo ≤ k → (c = 2 * k + 1 ∨ c = 2 * k + 2) → c < hi → l[f + k]? = some x → l[f + c]? = some y → lt x y = false

theorem sift_j1 (hc : CmpOK P cmp lt) {m : List α} (hP : ∀ x ∈ m, P x) {f r c : Nat} (hr : f + r < m.length) (hcl : f + c < m.length) (hlen : m.length ≤ 1000000000000) :
    slices_siftDownCmpFunc_G_j1 (f : Int) cmp (m, (r : Int)) (c : Int) = if lt m[f + r] m[f + c] = true then some (.inl (sw m (f + c) (f + r), (c : Int))) else some (.inr m) := by
  unfold slices_siftDownCmpFunc_G_j1
  simp only
  have e1 : w64 ((f : Int) + (r : Int)) = ((f + r : Nat) : Int) := w64_nat (by omega) (by omega)
  have e2 : w64 ((f : Int) + (c : Int)) = ((f + c : Nat) : Int) := w64_nat (by omega) (by omega)
  rw [e1, e2, ix_nat _ _ hr, ix_nat _ _ hcl]
  simp only [Option.bind_some]
  obtain ⟨q, eq, hq⟩ := cmp_at hc hP hr hcl
  rw [eq]
  simp only [Option.bind_some, hq]
  cases hlt : lt m[f + r] m[f + c] with
  | false => simp
  | true =>
    simp only [Bool.not_true, Bool.false_eq_true, if_false, if_true]
    rw [swap3 (l := m) (i := f + c) (j := f + r) hcl hr]

theorem sift_spec (hc : CmpOK P cmp lt) {l : List α} (hP : ∀ x ∈ l, P x) {f lo hi : Nat} (hf : f + hi ≤ l.length) (hlen : l.length ≤ 100000) (hlo : lo ≤ 100000) (h : HP lt f (lo + 1) hi l) :
    ∃ m, slices_siftDownCmpFunc_G l (lo : Int) (hi : Int) (f : Int) cmp = some m ∧ PI f (f + hi) l m ∧ HP lt f lo hi m := by
  unfold slices_siftDownCmpFunc_G
  refine loop_ex (fun k s => ∃ r : Nat, s.2 = (r : Int) ∧ k + r = hi + lo + 1 ∧ lo ≤ r ∧ PI f (f + hi) l s.1 ∧
      (∀ k c x y, lo ≤ k → k ≠ r → (c = 2 * k + 1 ∨ c = 2 * k + 2) → c < hi → s.1[f + k]? = some x → s.1[f + c]? = some y → lt x y = false) ∧
      (∀ k c x y, lo ≤ k → (r = 2 * k + 1 ∨ r = 2 * k + 2) → (c = 2 * r + 1 ∨ c = 2 * r + 2) → c < hi → s.1[f + k]? = some x → s.1[f + c]? = some y → lt x y = false))
    (fun m => PI f (f + hi) l m ∧ HP lt f lo hi m) ?_ (hi + 1) (l, (lo : Int)) ⟨lo, rfl, by omega, Nat.le_refl _, PI.refl, fun k c x y h1 h2 => h k c x y (by omega), fun k c x y h1 h2 h3 => by omega⟩
  rintro n ⟨m, r'⟩ ⟨r, hr', hn, hlr, hpi, i1, i2⟩
  simp only at hr' hpi i1 i2
  subst hr'
  have hml := hpi.len
  have hPm := hpi.pp hP
  have ec : w64 ((w64 (2 * (r : Int))) + 1) = ((2 * r + 1 : Nat) : Int) := by
    have e0 : w64 (2 * (r : Int)) = ((2 * r : Nat) : Int) := w64_nat (by omega) (by omega)
    rw [e0]
    exact w64_nat (by omega) (by omega)
  by_cases hch : hi ≤ 2 * r + 1
  · right
    refine ⟨m, ?_, hpi, fun k c x y g1 g2 g3 => i1 k c x y g1 (by omega) g2 g3⟩
    unfold slices_siftDownCmpFunc_G_l2
    simp only
    rw [ec]
    simp only [Option.bind_some]
    rw [if_pos (decide_eq_true (by omega))]
    rfl
  · have hchoose : ∃ c : Nat, (c = 2 * r + 1 ∨ c = 2 * r + 2) ∧ c < hi ∧ slices_siftDownCmpFunc_G_l2 (hi : Int) (f : Int) cmp (m, (r : Int)) = slices_siftDownCmpFunc_G_j1 (f : Int) cmp (m, (r : Int)) (c : Int) ∧
        (∀ d y z, (d = 2 * r + 1 ∨ d = 2 * r + 2) → d < hi → m[f + c]? = some z → m[f + d]? = some y → lt z y = false) := by
      unfold slices_siftDownCmpFunc_G_l2
      simp only
      rw [ec]
      simp only [Option.bind_some]
      rw [if_neg (by simp; omega)]
      have e1 : w64 (((2 * r + 1 : Nat) : Int) + 1) = ((2 * r + 2 : Nat) : Int) := w64_nat (by omega) (by omega)
      rw [e1]
      by_cases h2 : 2 * r + 2 < hi
      · rw [if_pos (decide_eq_true (by omega))]
        have e2 : w64 ((f : Int) + ((2 * r + 1 : Nat) : Int)) = ((f + (2 * r + 1) : Nat) : Int) := w64_nat (by omega) (by omega)
        have e3 : w64 (((f + (2 * r + 1) : Nat) : Int) + 1) = ((f + (2 * r + 2) : Nat) : Int) := w64_nat (by omega) (by omega)
        rw [e2, e3, ix_nat m (f + (2 * r + 1)) (by omega), ix_nat m (f + (2 * r + 2)) (by omega)]
        simp only [Option.bind_some]
        obtain ⟨q, eq, hq⟩ := cmp_at hc hPm (i := f + (2 * r + 1)) (j := f + (2 * r + 2)) (by omega) (by omega)
        rw [eq]
        simp only [Option.bind_some, hq]
        have p1 := hPm _ (List.getElem_mem (show f + (2 * r + 1) < m.length by omega))
        have p2 := hPm _ (List.getElem_mem (show f + (2 * r + 2) < m.length by omega))
        cases hlt : lt m[f + (2 * r + 1)] m[f + (2 * r + 2)] with
        | true =>
          refine ⟨2 * r + 2, .inr rfl, h2, by simp, fun d y z hd hdh hz hy => ?_⟩
          obtain ⟨_, rfl⟩ := at_some hz
          obtain ⟨_, rfl⟩ := at_some hy
          rcases hd with rfl | rfl
          · exact hc.asym p1 p2 hlt
          · exact hc.irr _ p2
        | false =>
          refine ⟨2 * r + 1, .inl rfl, by omega, by simp, fun d y z hd hdh hz hy => ?_⟩
          obtain ⟨_, rfl⟩ := at_some hz
          obtain ⟨_, rfl⟩ := at_some hy
          rcases hd with rfl | rfl
          · exact hc.irr _ p1
          · exact hlt
      · rw [if_neg (by simp; omega)]
        refine ⟨2 * r + 1, .inl rfl, by omega, by simp, fun d y z hd hdh hz hy => ?_⟩
        have hd' : d = 2 * r + 1 := by omega
        subst hd'
        rw [hz] at hy
        obtain rfl := Option.some.inj hy
        exact hc.irr _ (hPm _ (List.mem_of_getElem? hz))
    obtain ⟨c, hcr, hch2, ebody, hbig⟩ := hchoose
    rw [ebody, sift_j1 hc hPm (by omega) (by omega) (by omega)]
    have pr := hPm _ (List.getElem_mem (show f + r < m.length by omega))
    have pc := hPm _ (List.getElem_mem (show f + c < m.length by omega))
    have sr : m[f + r]? = some m[f + r] := some_at (by omega)
    have sc : m[f + c]? = some m[f + c] := some_at (by omega)
    cases hlt : lt m[f + r] m[f + c] with
    | false =>
      right
      refine ⟨m, by simp, hpi, fun k d x y g1 g2 g3 hx hy => ?_⟩
      by_cases hk : k = r
      · subst hk
        rw [sr] at hx
        obtain rfl := Option.some.inj hx
        exact hc.ntr _ _ _ pr pc (hPm _ (List.mem_of_getElem? hy)) hlt (hbig d y _ g2 g3 sc hy)
      · exact i1 k d x y g1 hk g2 g3 hx hy
    | true =>
      left
      refine ⟨(sw m (f + c) (f + r), (c : Int)), n - (c - r), by simp, ⟨c, rfl, by omega, by omega, hpi.trans (sw_PI (by omega) (by omega)), ?_, ?_⟩, by omega⟩
      · intro k d x y g1 g2 g3 g4 hx hy
        simp only at hx hy
        rw [sw_get (by omega) (by omega)] at hx hy
        rw [if_neg (by omega)] at hx
        by_cases hk : k = r
        · subst hk
          rw [if_pos rfl, sc] at hx
          obtain rfl := Option.some.inj hx
          by_cases hd : d = c
          · subst hd
            rw [if_pos rfl, sr] at hy
            obtain rfl := Option.some.inj hy
            exact hc.asym pr pc hlt
          · rw [if_neg (by omega), if_neg (by omega)] at hy
            exact hbig d y _ g3 g4 sc hy
        · rw [if_neg (by omega)] at hx
          by_cases hd : d = r
          · subst hd
            rw [if_neg (by omega), if_pos rfl, sc] at hy
            obtain rfl := Option.some.inj hy
            exact i2 k c x _ g1 g3 hcr hch2 hx sc
          · rw [if_neg (by omega), if_neg (by omega)] at hy
            exact i1 k d x y g1 hk g3 g4 hx hy
      · intro k d x y g1 g2 g3 g4 hx hy
        simp only at hx hy
        have hk : k = r := by omega
        subst hk
        rw [sw_get (by omega) (by omega)] at hx hy
        rw [if_neg (by omega), if_pos rfl, sc] at hx
        obtain rfl := Option.some.inj hx
        rw [if_neg (by omega), if_neg (by omega)] at hy
        exact i1 c d _ y (by omega) (by omega) g3 g4 sc hy

theorem heap_max (hc : CmpOK P cmp lt) {l : List α} (hP : ∀ x ∈ l, P x) {f hi : Nat} (h : HP lt f 0 hi l) : ∀ (p : Nat) x y, p < hi → l[f]? = some x → l[f + p]? = some y → lt x y = false := by
  intro p
  induction p using Nat.strongRecOn with
  | _ p ih =>
    intro x y hp hx hy
    have px := hP _ (List.mem_of_getElem? hx)
    have py := hP _ (List.mem_of_getElem? hy)
    by_cases h0 : p = 0
    · subst h0
      rw [Nat.add_zero, hx] at hy
      obtain rfl := Option.some.inj hy
      exact hc.irr _ px
    · have hlt : (p - 1) / 2 < p := by omega
      have hl : f + (p - 1) / 2 < l.length := by have := (at_some hy).1; omega
      have hz := some_at hl
      exact hc.ntr _ _ _ px (hP _ (List.getElem_mem hl)) py (ih _ hlt x _ (by omega) hx hz) (h ((p - 1) / 2) p _ y (by omega) (by omega) hp hz hy)

theorem heap_spec (hc : CmpOK P cmp lt) {l : List α} (hP : ∀ x ∈ l, P x) {a b : Nat} (hab : a < b) (hbl : b ≤ l.length) (hlen : l.length ≤ 10000) :
    ∃ m, slices_heapSortCmpFunc_G l (a : Int) (b : Int) cmp = some m ∧ PI a b l m ∧ SR lt a b m := by
  obtain ⟨hi, rfl⟩ : ∃ hi, b = a + hi := ⟨b - a, by omega⟩
  have e1 : w64 (((a + hi : Nat) : Int) - (a : Int)) = (hi : Int) := w64_nat (by omega) (by omega)
  have e2 : w64 ((hi : Int) - 1) = ((hi - 1 : Nat) : Int) := w64_nat (by omega) (by omega)
  have e3 : w64 (Int.tdiv ((hi - 1 : Nat) : Int) 2) = (((hi - 1) / 2 : Nat) : Int) := w64_nat (by rw [Int.tdiv_eq_ediv_of_nonneg (by omega)]; omega) (by omega)
  obtain ⟨m1, em1, p1, hp1⟩ := loop_ex (b1 := slices_heapSortCmpFunc_G_l1 (a : Int) cmp (hi : Int))
    (fun k s => ∃ t : Nat, s.2 = (t : Int) - 1 ∧ k = t ∧ t ≤ hi + 1 ∧ PI a (a + hi) l s.1 ∧ HP lt a t hi s.1)
    (fun m => PI a (a + hi) l m ∧ HP lt a 0 hi m) (by
      rintro n ⟨m, i'⟩ ⟨t, hi', hn, htl, hpi, hhp⟩
      simp only at hi' hpi hhp
      subst hi'
      have hml := hpi.len
      unfold slices_heapSortCmpFunc_G_l1
      simp only
      by_cases ht : t = 0
      · right
        subst ht
        rw [if_neg (by simp)]
        exact ⟨m, rfl, hpi, hhp⟩
      · left
        have et : (t : Int) - 1 = ((t - 1 : Nat) : Int) := by omega
        rw [if_pos (decide_eq_true (by omega)), et]
        obtain ⟨r, er, g1, g2⟩ := sift_spec hc (hpi.pp hP) (f := a) (lo := t - 1) (hi := hi) (by omega) (by omega) (by omega) (by rw [show t - 1 + 1 = t by omega]; exact hhp)
        rw [er]
        simp only [Option.bind_some]
        refine ⟨_, t - 1, rfl, ⟨t - 1, ?_, rfl, by omega, hpi.trans g1, g2⟩, by omega⟩
        simp only
        rw [w64_id (by omega) (by omega)]) ((hi - 1) / 2 + 1) (l, (((hi - 1) / 2 : Nat) : Int)) ⟨(hi - 1) / 2 + 1, by simp only; omega, rfl, by omega, PI.refl, fun k c x y h1 h2 h3 => by omega⟩
  have hm1 := p1.len
  obtain ⟨m2, em2, p2, hs2⟩ := loop_ex (b1 := slices_heapSortCmpFunc_G_l2 (a : Int) cmp)
    (fun k s => ∃ t : Nat, s.2 = (t : Int) - 1 ∧ k = t ∧ t ≤ hi ∧ PI a (a + hi) l s.1 ∧ HP lt a 0 t s.1 ∧ SR lt (a + t) (a + hi) s.1 ∧
      (∀ p q x y, a ≤ p → p < a + t → a + t ≤ q → q < a + hi → s.1[p]? = some x → s.1[q]? = some y → lt y x = false))
    (fun m => PI a (a + hi) l m ∧ SR lt a (a + hi) m) (by
      rintro n ⟨m, i'⟩ ⟨t, hi', hn, htl, hpi, hhp, hsr, hcr⟩
      simp only at hi' hpi hhp hsr hcr
      subst hi'
      have hml := hpi.len
      have hPm := hpi.pp hP
      unfold slices_heapSortCmpFunc_G_l2
      simp only
      by_cases ht : t = 0
      · right
        subst ht
        rw [if_neg (by simp)]
        exact ⟨m, rfl, hpi, hsr⟩
      · left
        have et : (t : Int) - 1 = ((t - 1 : Nat) : Int) := by omega
        have e4 : w64 ((a : Int) + ((t - 1 : Nat) : Int)) = ((a + (t - 1) : Nat) : Int) := w64_nat (by omega) (by omega)
        rw [if_pos (decide_eq_true (by omega)), et, e4, ix_nat m (a + (t - 1)) (by omega), ix_nat m a (by omega)]
        simp only [Option.bind_some]
        rw [swap3 (l := m) (i := a + (t - 1)) (j := a) (by omega) (by omega)]
        have hsp : PI a (a + t) m (sw m (a + (t - 1)) a) := sw_PI (by omega) (by omega)
        have hsl := hsp.len
        have hh1 : HP lt a (0 + 1) (t - 1) (sw m (a + (t - 1)) a) := by
          intro k c x y g1 g2 g3 hx hy
          rw [sw_get (by omega) (by omega), if_neg (by omega), if_neg (by omega)] at hx hy
          exact hhp k c x y (by omega) g2 (by omega) hx hy
        obtain ⟨r, er, g1, g2⟩ := sift_spec hc (hsp.pp hPm) (f := a) (lo := 0) (hi := t - 1) (by omega) (by omega) (by omega) hh1
        rw [show (0 : Int) = ((0 : Nat) : Int) from rfl, er]
        simp only [Option.bind_some]
        -- what lies at the end, and what lies ahead of it
        have stop : r[a + (t - 1)]? = m[a]? := by
          rw [g1.out _ (.inr (by omega)), sw_get (by omega) (by omega), if_pos rfl]
        have sbeh : ∀ q, a + t ≤ q → r[q]? = m[q]? := fun q hq => by
          rw [g1.out _ (.inr (by omega)), sw_get (by omega) (by omega), if_neg (by omega), if_neg (by omega)]
        have sfr : ∀ p x, a ≤ p → p < a + (t - 1) → r[p]? = some x → ∃ j, a ≤ j ∧ j < a + t ∧ m[j]? = some x := fun p x h1 h2 hx => by
          obtain ⟨j, j1, j2, hj⟩ := g1.find h1 h2 hx
          exact hsp.find j1 (by omega) hj
        have ma := some_at (show a < m.length by omega)
        refine ⟨_, t - 1, rfl, ⟨t - 1, ?_, rfl, by omega, hpi.trans ((hsp.mono (Nat.le_refl _) (by omega)).trans (g1.mono (Nat.le_refl _) (by omega))), g2, ?_, ?_⟩, by omega⟩
        · simp only
          rw [w64_id (by omega) (by omega)]
        · intro p q x y h1 h2 h3 hx hy
          simp only at hx hy
          rw [sbeh q (by omega)] at hy
          by_cases hp : p = a + (t - 1)
          · subst hp
            rw [stop] at hx
            exact hcr a q x y (Nat.le_refl _) (by omega) (by omega) h3 hx hy
          · rw [sbeh p (by omega)] at hx
            exact hsr p q x y (by omega) h2 h3 hx hy
        · intro p q x y h1 h2 h3 h4 hx hy
          simp only at hx hy
          obtain ⟨j, j1, j2, hj⟩ := sfr p x h1 h2 hx
          by_cases hq : q = a + (t - 1)
          · subst hq
            rw [stop] at hy
            exact heap_max hc hPm hhp (j - a) y x (by omega) hy (by rw [show a + (j - a) = j by omega]; exact hj)
          · rw [sbeh q (by omega)] at hy
            exact hcr j q x y j1 j2 (by omega) h4 hj hy) hi (m1, ((hi - 1 : Nat) : Int)) ⟨hi, by simp only; omega, rfl, Nat.le_refl _, p1, hp1, fun p q x y h1 h2 h3 => by omega, fun p q x y h1 h2 h3 h4 => by omega⟩
  refine ⟨m2, ?_, p2, hs2⟩
  unfold slices_heapSortCmpFunc_G
  rw [e1]
  simp only [Option.bind_some]
  rw [e2, e3, em1]
  simp only [Option.bind_some]
  rw [em2]
  rfl
end
end Go.Proofs.Ytiihddcppmjbaaa.Sh

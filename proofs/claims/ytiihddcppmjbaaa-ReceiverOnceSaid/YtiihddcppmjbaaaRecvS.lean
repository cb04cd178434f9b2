/- Receivers: what they note, by the numbers that belong to them (chapter 11). -/
import Derived.Test.YtiihddcppmjbaaaRecvT
namespace Go.Proofs.Ytiihddcppmjbaaa.Sh
open Go
set_option linter.unusedVariables false
set_option linter.unusedSimpArgs false

/-- a valid list within bounds has at most half as many spans -/
theorem vs_len {lo hi : Int} : ∀ {l : List Span}, VS l → EB lo hi l → lo ≤ hi → 2 * (l.length : Int) ≤ hi - lo + 1
  | [], _, _, h => by simp; omega
  | s :: l, hv, he, hlh => by
    obtain ⟨h1, h2, h3⟩ := hv.tail
    have hs := he s (by simp)
    cases hl : l with
    | nil => simp; omega
    | cons t l2 =>
      have ht := he t (by rw [hl]; simp)
      have h4 := h3 t (by rw [hl]; simp)
      have ih := vs_len (lo := s.To + 1) (hi := hi) h1 (fun u hu => by
        have q1 := he u (List.mem_cons_of_mem _ hu)
        have q2 := h3 u hu
        have q3 := h1.ne u hu
        omega) (by omega)
      rw [hl] at ih
      simp only [List.length_cons] at ih ⊢
      omega
/-- a valid receiver of numbers below n -/
structure BR (n : Int) (r : Receiver) : Prop where
  v : VR r
  g : EB 0 n r.Got
  l : EB 0 n r.Lost
theorem BR.lens {n : Int} {r : Receiver} (h : BR n r) (h0 : 0 ≤ n) (h1 : n ≤ 30) : r.Got.length ≤ 15 ∧ r.Lost.length ≤ 15 := by
  have a := vs_len h.v.g.1 h.g h0
  have b := vs_len h.v.l.1 h.l h0
  omega
theorem eb_mem {lo hi : Int} {l : List Span} (h : ∀ z, Mem l z → lo ≤ z ∧ z < hi) (hv : VS l) : EB lo hi l := fun s hs => by
  have h1 := hv.ne s hs
  have h2 := h s.From ⟨s, hs, Int.le_refl _, h1⟩
  have h3 := h (s.To - 1) ⟨s, hs, by omega, by omega⟩
  omega
theorem mem_eb {lo hi : Int} {l : List Span} (h : EB lo hi l) {z : Int} (hz : Mem l z) : lo ≤ z ∧ z < hi := by
  obtain ⟨s, hs, q⟩ := hz
  have := h s hs
  omega
theorem BR.zero : BR 0 ⟨[], []⟩ := ⟨⟨⟨VS.nil, fun s h => (by cases h)⟩, ⟨VS.nil, fun s h => (by cases h)⟩, fun z h => Mem.nil h.1⟩, fun s h => (by cases h), fun s h => (by cases h)⟩
theorem BR.wide {n m : Int} {r : Receiver} (h : BR n r) (hm : n ≤ m) : BR m r := ⟨h.v, h.g.wide (Int.le_refl _) hm, h.l.wide (Int.le_refl _) hm⟩
theorem BR.of {n : Int} {r : Receiver} (h1 : n ≤ 30) (g : VS r.Got) (l : VS r.Lost) (gm : ∀ z, Mem r.Got z → 0 ≤ z ∧ z < n) (lm : ∀ z, Mem r.Lost z → 0 ≤ z ∧ z < n) (ap : ∀ z, ¬ (Mem r.Got z ∧ Mem r.Lost z)) : BR n r :=
  ⟨⟨⟨g, (eb_mem gm g).wide (Int.le_refl _) (by omega)⟩, ⟨l, (eb_mem lm l).wide (Int.le_refl _) (by omega)⟩, ap⟩, eb_mem gm g, eb_mem lm l⟩

theorem valid_br {n : Int} {r : Receiver} (h : BR n r) (h0 : 0 ≤ n) (h1 : n ≤ 30) : receiver_Valid r = some true ∧ ref11_Valid r = some true := by
  obtain ⟨a, b⟩ := h.lens h0 h1
  obtain ⟨c, e1, e2, hc⟩ := valid_vr (r := r) (by omega) (by omega)
  have := hc.2 h.v
  subst this
  exact ⟨e1, e2⟩
theorem accept_spec {n : Int} {r : Receiver} (h : BR n r) (h0 : 0 ≤ n) (h1 : n ≤ 30) {k : Int} (k0 : 0 ≤ k) (k1 : k < n) : ∃ x ok, receiver_Accept r k = some (x, ok, 0) ∧ ref11_Accept r k = some (x, ok, 0) ∧ BR n x ∧
    (∀ z, Mem x.Got z ↔ Mem r.Got z ∨ z = k) ∧ (∀ z, Mem x.Lost z ↔ Mem r.Lost z ∧ z ≠ k) ∧ (ok = true ↔ ¬ Mem r.Got k) := by
  obtain ⟨a, b⟩ := h.lens h0 h1
  obtain ⟨y, o, e, ey, er, _⟩ := both_accept (r := r) (by omega) (by omega) k
  obtain ⟨v1, v2⟩ := valid_br h h0 h1
  obtain ⟨c, ec, hc⟩ := has_spec r.Got k (by omega)
  obtain ⟨u, eu, hu⟩ := union_spec (a := r.Got) (b := [(⟨k, k + 1⟩ : Span)]) (by simp; omega)
  obtain ⟨m, em, hm⟩ := minus_spec (a := r.Lost) (b := [(⟨k, k + 1⟩ : Span)]) (by omega) (by simp)
  have hul := hu.len
  have hml := hm.len
  simp only [List.length_append, List.length_singleton] at hul hml
  have ug : ∀ z, Mem u z ↔ Mem r.Got z ∨ z = k := fun z => by
    rw [hu.mem, mem_append, mem_one]
    simp only
    constructor
    · rintro (g | g)
      · exact .inl g
      · exact .inr (by omega)
    · rintro (g | g)
      · exact .inl g
      · exact .inr (by omega)
  have mg : ∀ z, Mem m z ↔ Mem r.Lost z ∧ z ≠ k := fun z => by
    rw [hm.mem, mem_one]
    simp only
    constructor
    · rintro ⟨g, g2⟩
      exact ⟨g, by omega⟩
    · rintro ⟨g, g2⟩
      exact ⟨g, by omega⟩
  have key : receiver_Accept r k = some (⟨u, m⟩, !c, 0) := by
    unfold receiver_Accept
    rw [v1]
    have hin : receiver_in k 0 1073741824 = some true := by
      unfold receiver_in
      rw [decide_eq_true k0, decide_eq_true (show k ≤ 1073741824 by omega)]
      rfl
    simp only [Option.bind_some, Bool.not_true, Bool.false_eq_true, if_false]
    rw [hin, ec, w64_id (x := k + 1) (by omega) (by omega), eu, em]
    simp only [Option.bind_some, Bool.not_true, Bool.false_eq_true, if_false]
    have hlim : receiver_limited u m = some (⟨u, m⟩, 0) := by
      unfold receiver_limited
      rw [decide_eq_false (show ¬ (4096 : Int) < (u.length : Int) by omega), decide_eq_false (show ¬ (4096 : Int) < (m.length : Int) by omega)]
      rfl
    rw [hlim]
    simp
  rw [key] at ey
  obtain ⟨rfl, rfl, rfl⟩ : (⟨u, m⟩ : Receiver) = y ∧ (!c) = o ∧ 0 = e := by
    have := Option.some.inj ey
    exact ⟨congrArg Prod.fst this, congrArg (fun p => p.2.1) this, congrArg (fun p => p.2.2) this⟩
  refine ⟨_, _, key, er, BR.of h1 hu.vs hm.vs (fun z hz => ?_) (fun z hz => ?_) (fun z ⟨g1, g2⟩ => ?_), ug, mg, ?_⟩
  · rcases (ug z).1 hz with g | g
    · exact mem_eb h.g g
    · omega
  · exact mem_eb h.l ((mg z).1 hz).1
  · obtain ⟨q1, q2⟩ := (mg z).1 g2
    rcases (ug z).1 g1 with g | g
    · exact h.v.ap z ⟨g, q1⟩
    · exact q2 g
  · rw [← hc]
    cases c <;> simp
theorem lose_spec {n : Int} {r : Receiver} (h : BR n r) (h0 : 0 ≤ n) (h1 : n ≤ 30) {k : Int} (k0 : 0 ≤ k) (k1 : k ≤ n) : ∃ x, receiver_Lose r k = some (x, 0) ∧ ref11_Lose r k = some (x, 0) ∧ BR n x ∧
    (∀ z, Mem x.Got z ↔ Mem r.Got z) ∧ (∀ z, Mem x.Lost z ↔ Mem r.Lost z ∨ (0 ≤ z ∧ z < k ∧ ¬ Mem r.Got z)) := by
  obtain ⟨a, b⟩ := h.lens h0 h1
  obtain ⟨y, e, ey, er, _⟩ := both_lose (r := r) (by omega) (by omega) (by omega) k
  obtain ⟨v1, v2⟩ := valid_br h h0 h1
  obtain ⟨m, em, hm⟩ := minus_spec (a := [(⟨0, k⟩ : Span)]) (b := r.Got) (by simp) (by omega)
  have hml := hm.len
  simp only [List.length_singleton, Nat.one_mul] at hml
  obtain ⟨u, eu, hu⟩ := union_spec (a := r.Lost) (b := m) (by omega)
  have hul := hu.len
  simp only [List.length_append] at hul
  have ug : ∀ z, Mem u z ↔ Mem r.Lost z ∨ (0 ≤ z ∧ z < k ∧ ¬ Mem r.Got z) := fun z => by
    rw [hu.mem, mem_append, hm.mem, mem_one, and_assoc]
  have key : receiver_Lose r k = some (⟨r.Got, u⟩, 0) := by
    unfold receiver_Lose
    rw [v1]
    have hin : receiver_in k 0 1073741825 = some true := by
      unfold receiver_in
      rw [decide_eq_true k0, decide_eq_true (show k ≤ 1073741825 by omega)]
      rfl
    simp only [Option.bind_some, Bool.not_true, Bool.false_eq_true, if_false]
    have ec : slices_Clone_Lapi_Span_api_Span r.Got = some r.Got := by
      unfold slices_Clone_Lapi_Span_api_Span
      rw [appM_one _ _ _ (by simp; omega) (by decide)]
      rfl
    rw [hin, em, ec]
    simp only [Option.bind_some, Bool.not_true, Bool.false_eq_true, if_false]
    rw [eu]
    simp only [Option.bind_some]
    have hlim : receiver_limited r.Got u = some (⟨r.Got, u⟩, 0) := by
      unfold receiver_limited
      rw [decide_eq_false (show ¬ (4096 : Int) < (r.Got.length : Int) by omega), decide_eq_false (show ¬ (4096 : Int) < (u.length : Int) by omega)]
      rfl
    rw [hlim]
    rfl
  rw [key] at ey
  obtain ⟨rfl, rfl⟩ : (⟨r.Got, u⟩ : Receiver) = y ∧ 0 = e := by
    have := Option.some.inj ey
    exact ⟨congrArg Prod.fst this, congrArg Prod.snd this⟩
  refine ⟨_, key, er, BR.of h1 h.v.g.1 hu.vs (fun z hz => mem_eb h.g hz) (fun z hz => ?_) (fun z ⟨g1, g2⟩ => ?_), fun z => Iff.rfl, ug⟩
  · rcases (ug z).1 hz with g | g
    · exact mem_eb h.l g
    · omega
  · rcases (ug z).1 g2 with g | g
    · exact h.v.ap z ⟨g1, g⟩
    · exact g.2.2 g1

/-- the number behind the greatest one of a list -/
def endL (l : List Span) : Int := match l.getLast? with | none => 0 | some s => s.To
theorem endL_some {l : List Span} (hn : 0 < l.length) : endL l = (l[l.length - 1]'(by omega)).To := by
  unfold endL
  rw [List.getLast?_eq_getElem?, List.getElem?_eq_getElem (by omega)]
theorem endL_lt {l : List Span} (hv : VS l) {z : Int} (hz : Mem l z) : z < endL l := by
  obtain ⟨s, hs, q⟩ := hz
  have hn : 0 < l.length := List.length_pos_of_mem hs
  rw [endL_some hn]
  have := vs_first hv hn s hs
  omega
theorem endL_mem {l : List Span} (hv : VS l) (hn : 0 < l.length) : Mem l (endL l - 1) := by
  rw [endL_some hn]
  have hm := List.getElem_mem (show l.length - 1 < l.length by omega)
  have := hv.ne _ hm
  exact ⟨_, hm, by omega, by omega⟩
def highL (r : Receiver) : Int := max (if r.Got.length = 0 then 0 else max 0 (endL r.Got)) (if r.Lost.length = 0 then 0 else endL r.Lost)
theorem whl {σ β : Type} {b : σ → Option (σ ⊕ β)} {s t : σ} (h : b s = some (.inl t)) : whileM b s = whileM b t := by rw [whileM_eq, h]; rfl
theorem whe {σ β : Type} {b : σ → Option (σ ⊕ β)} {s : σ} {r : β} (h : b s = some (.inr r)) : whileM b s = some r := by rw [whileM_eq, h]; rfl
theorem high_spec {r : Receiver} (hv : VR r) (hg : r.Got.length < 50) (hl : r.Lost.length < 50) : receiver_High r = some (highL r) := by
  obtain ⟨c, e1, _, hc⟩ := valid_vr hg hl
  have := hc.2 hv
  subst this
  unfold receiver_High
  rw [e1]
  simp only [Option.bind_some, Bool.not_true, Bool.false_eq_true, if_false]
  have s1 : receiver_High_l1 r (0, 0) = some (.inl ((if r.Got.length = 0 then 0 else max 0 (endL r.Got)), 1)) := by
    unfold receiver_High_l1 receiver_High_j1
    have e0 : ix ([r.Got, r.Lost] : List (List Span)) (0 : Int) = some r.Got := rfl
    simp only
    rw [if_pos (by simp), e0]
    simp only [Option.bind_some]
    by_cases h0 : r.Got.length = 0
    · rw [if_neg (fun q => by have := of_decide_eq_true q; omega), if_pos h0]; rfl
    · rw [if_pos (decide_eq_true (by omega)), w64_nat (n := r.Got.length - 1) (by omega) (by omega), ix_nat _ _ (by omega), if_neg h0, endL_some (by omega)]; rfl
  have s2 : ∀ a : Int, 0 ≤ a → receiver_High_l1 r (a, 1) = some (.inl (max a (if r.Lost.length = 0 then 0 else endL r.Lost), 2)) := fun a ha => by
    unfold receiver_High_l1 receiver_High_j1
    have e0 : ix ([r.Got, r.Lost] : List (List Span)) (1 : Int) = some r.Lost := rfl
    simp only
    rw [if_pos (by simp), e0]
    simp only [Option.bind_some]
    by_cases h0 : r.Lost.length = 0
    · rw [if_neg (fun q => by have := of_decide_eq_true q; omega), if_pos h0, Int.max_eq_left ha]; rfl
    · rw [if_pos (decide_eq_true (by omega)), w64_nat (n := r.Lost.length - 1) (by omega) (by omega), ix_nat _ _ (by omega), if_neg h0, endL_some (by omega)]; rfl
  have s3 : ∀ a : Int, receiver_High_l1 r (a, 2) = some (.inr a) := fun a => by
    unfold receiver_High_l1
    simp only
    rw [if_neg (by simp)]
  rw [whl s1, whl (s2 _ (by split <;> omega)), whe (s3 _)]
  rfl
theorem high_lt {r : Receiver} (hv : VR r) {z : Int} (hz : Mem r.Got z ∨ Mem r.Lost z) : z < highL r := by
  unfold highL
  rcases hz with h | h
  · have h1 := endL_lt hv.g.1 h
    have h2 : r.Got.length ≠ 0 := fun h0 => (no_mem hv.g.1).1 h0 z h
    rw [if_neg h2]
    omega
  · have h1 := endL_lt hv.l.1 h
    have h2 : r.Lost.length ≠ 0 := fun h0 => (no_mem hv.l.1).1 h0 z h
    rw [if_neg h2]
    omega
theorem high_nn (r : Receiver) : 0 ≤ highL r := by
  unfold highL
  split <;> split <;> omega
theorem high_le {n : Int} {r : Receiver} (h : BR n r) (h0 : 0 ≤ n) : highL r ≤ n := by
  unfold highL
  have a : r.Got.length ≠ 0 → endL r.Got ≤ n := fun hn => by
    have := mem_eb h.g (endL_mem h.v.g.1 (by omega))
    omega
  have b : r.Lost.length ≠ 0 → endL r.Lost ≤ n := fun hn => by
    have := mem_eb h.l (endL_mem h.v.l.1 (by omega))
    omega
  split <;> split <;> omega

theorem missing_spec {n : Int} {r : Receiver} (h : BR n r) (h0 : 0 ≤ n) (h1 : n ≤ 30) {k : Int} (k0 : 0 ≤ k) (k1 : k ≤ 1000) : ∃ l, receiver_Missing r k = some (l, 0) ∧ VS l ∧ l.length ≤ 31 ∧
    ∀ z, Mem l z ↔ (0 ≤ z ∧ z < max k (highL r)) ∧ ¬ Mem r.Got z ∧ ¬ Mem r.Lost z := by
  obtain ⟨a, b⟩ := h.lens h0 h1
  obtain ⟨v1, v2⟩ := valid_br h h0 h1
  obtain ⟨u, eu, hu⟩ := union_spec (a := r.Got) (b := r.Lost) (by omega)
  have hul := hu.len
  simp only [List.length_append] at hul
  obtain ⟨m, em, hm⟩ := minus_spec (a := [(⟨0, max k (highL r)⟩ : Span)]) (b := u) (by simp) (by omega)
  have hml := hm.len
  simp only [List.length_singleton, Nat.one_mul] at hml
  refine ⟨m, ?_, hm.vs, by omega, fun z => ?_⟩
  · unfold receiver_Missing
    rw [v1]
    have hin : receiver_in k 0 1073741825 = some true := by
      unfold receiver_in
      rw [decide_eq_true k0, decide_eq_true (show k ≤ 1073741825 by omega)]
      rfl
    simp only [Option.bind_some, Bool.not_true, Bool.false_eq_true, if_false]
    rw [hin, high_spec h.v (by omega) (by omega)]
    simp only [Option.bind_some, Bool.not_true, Bool.false_eq_true, if_false]
    unfold receiver_known
    rw [eu]
    simp only [Option.bind_some]
    rw [em]
    rfl
  · rw [hm.mem, mem_one, hu.mem, mem_append, not_or]
theorem settled_spec {n : Int} {r : Receiver} (h : BR n r) (h0 : 0 ≤ n) (h1 : n ≤ 30) : ∃ s, receiver_Settled r = some s ∧ 0 ≤ s ∧ (∀ z, 0 ≤ z → z < s → Mem r.Got z ∨ Mem r.Lost z) ∧ ¬ (Mem r.Got s ∨ Mem r.Lost s) := by
  obtain ⟨a, b⟩ := h.lens h0 h1
  obtain ⟨v1, v2⟩ := valid_br h h0 h1
  obtain ⟨u, eu, hu⟩ := union_spec (a := r.Got) (b := r.Lost) (by omega)
  have hum : ∀ z, Mem u z ↔ Mem r.Got z ∨ Mem r.Lost z := fun z => by rw [hu.mem, mem_append]
  simp only [← hum]
  unfold receiver_Settled receiver_known
  rw [eu, v1]
  simp only [Option.bind_some, Bool.not_true, Bool.false_or]
  have hv := hu.vs
  have hnn : ∀ z, Mem u z → 0 ≤ z := fun z hz => by
    rcases (hum z).1 hz with g | g
    · exact (mem_eb h.g g).1
    · exact (mem_eb h.l g).1
  cases u with
  | nil => exact ⟨0, rfl, Int.le_refl _, fun z h1 h2 => by omega, Mem.nil⟩
  | cons t l =>
    obtain ⟨t1, t2, t3⟩ := hv.tail
    have e0 : ix (t :: l) 0 = some t := rfl
    have hz : (((t :: l).length : Int) == 0) = false := by simp; omega
    rw [hz, e0]
    simp only [Option.bind_some, Bool.false_eq_true, if_false]
    have tf : 0 ≤ t.From := hnn _ ⟨t, by simp, Int.le_refl _, t2⟩
    by_cases hp : 0 < t.From
    · rw [if_pos (decide_eq_true hp)]
      refine ⟨0, rfl, Int.le_refl _, fun z h1 h2 => by omega, fun hz => ?_⟩
      have := hv.low hz
      omega
    · rw [if_neg (by simpa using hp)]
      refine ⟨t.To, rfl, by omega, fun z h1 h2 => ⟨t, by simp, by omega, h2⟩, fun hz => ?_⟩
      rcases mem_cons.1 hz with g | ⟨s, hs, q⟩
      · omega
      · have := t3 s hs
        omega

/-- the receivers that the dice make -/
theorem dreceiver {d : Dice} (hd : DOK d) : ∃ r d', made_Dice_Receiver d = some (r, d') ∧ BR 14 r ∧ DOK d' := by
  unfold made_Dice_Receiver
  have e0 : ref11_New = some ⟨[], []⟩ := rfl
  obtain ⟨m, d1, e1, m0, m1, hd1⟩ := next_spec hd (n := 12) (by decide) (by decide)
  rw [e0, e1]
  simp only [Option.bind_some]
  obtain ⟨⟨a, b, g, l⟩, er, hr, hb⟩ := loop_ex (b1 := made_Dice_Receiver_l1)
    (fun k s => DOK ⟨s.1, s.2.1⟩ ∧ BR 14 ⟨s.2.2.1, s.2.2.2.1⟩ ∧ 0 ≤ s.2.2.2.2 ∧ s.2.2.2.2 ≤ 100 ∧ k = s.2.2.2.2.toNat)
    (fun r => DOK ⟨r.1, r.2.1⟩ ∧ BR 14 ⟨r.2.2.1, r.2.2.2⟩) (by
      rintro k ⟨L, A, g, l, i⟩ ⟨h1, h2, h3, h4, hk⟩
      simp only at h1 h2 h3 h4 hk
      unfold made_Dice_Receiver_l1 made_Dice_Receiver_j1
      simp only
      by_cases hi : 0 < i
      · left
        rw [if_pos (decide_eq_true hi)]
        obtain ⟨x, d2, e2, x0, x1, hd2⟩ := next_spec h1 (n := 5) (by decide) (by decide)
        rw [e2]
        simp only [Option.bind_some]
        rw [w64_id (x := i - 1) (by omega) (by omega)]
        cases hx : (x == 0) with
        | true =>
          simp only [if_true]
          obtain ⟨y, d3, e3, y0, y1, hd3⟩ := next_spec hd2 (n := 10) (by decide) (by decide)
          obtain ⟨z, _, ez, hz, _⟩ := lose_spec h2 (by decide) (by decide) (k := y) y0 (by omega)
          rw [e3]
          simp only [Option.bind_some]
          rw [ez]
          exact ⟨_, k - 1, rfl, ⟨hd3, hz, by simp only; omega, by simp only; omega, by simp only; omega⟩, by omega⟩
        | false =>
          simp only [Bool.false_eq_true, if_false]
          obtain ⟨y, d3, e3, y0, y1, hd3⟩ := next_spec hd2 (n := 14) (by decide) (by decide)
          obtain ⟨z, o, _, ez, hz, _⟩ := accept_spec h2 (by decide) (by decide) (k := y) y0 y1
          rw [e3]
          simp only [Option.bind_some]
          rw [ez]
          exact ⟨_, k - 1, rfl, ⟨hd3, hz, by simp only; omega, by simp only; omega, by simp only; omega⟩, by omega⟩
      · right
        rw [if_neg (by simpa using hi)]
        exact ⟨_, rfl, h1, h2⟩) m.toNat (d1.L, d1.At, [], [], m) ⟨hd1, BR.zero.wide (by decide), m0, by simp only; omega, rfl⟩
  rw [er]
  exact ⟨_, _, rfl, hb, hr⟩

theorem rsane_true : law11_sane = some true := by
  unfold law11_sane
  have e0 : receiver_New = some ⟨[], []⟩ := rfl
  rw [e0]
  simp only [Option.bind_some]
  have b0 : BR 14 ⟨[], []⟩ := BR.zero.wide (by decide)
  obtain ⟨a, o1, e1, _, ba, ga, la, _⟩ := accept_spec b0 (by decide) (by decide) (k := 0) (by decide) (by decide)
  obtain ⟨b, o2, e2, _, bb, gb, lb, _⟩ := accept_spec ba (by decide) (by decide) (k := 1) (by decide) (by decide)
  obtain ⟨c, o3, e3, _, bc, gc, lc, _⟩ := accept_spec bb (by decide) (by decide) (k := 4) (by decide) (by decide)
  have hg : ∀ z, Mem c.Got z ↔ z = 0 ∨ z = 1 ∨ z = 4 := fun z => by
    rw [gc, gb, ga]
    have := @Mem.nil z
    simp only at *
    constructor
    · rintro (((g | g) | g) | g)
      · exact absurd g this
      · exact .inl g
      · exact .inr (.inl g)
      · exact .inr (.inr g)
    · rintro (g | g | g)
      · exact .inl (.inl (.inr g))
      · exact .inl (.inr g)
      · exact .inr g
  have hl : ∀ z, ¬ Mem c.Lost z := fun z hz => Mem.nil ((la z).1 ((lb z).1 ((lc z).1 hz).1).1).1
  have s1 : law11_sane_l2 ([], [], 0) = some (.inl (a.Got, a.Lost, 1)) := by
    unfold law11_sane_l2
    have e : ix ([0, 1, 4] : List Int) 0 = some 0 := rfl
    simp only
    rw [if_pos (by simp), e]
    simp only [Option.bind_some]
    rw [e1]; rfl
  have s2 : law11_sane_l2 (a.Got, a.Lost, 1) = some (.inl (b.Got, b.Lost, 2)) := by
    unfold law11_sane_l2
    have e : ix ([0, 1, 4] : List Int) 1 = some 1 := rfl
    simp only
    rw [if_pos (by simp), e]
    simp only [Option.bind_some]
    rw [e2]; rfl
  have s3 : law11_sane_l2 (b.Got, b.Lost, 2) = some (.inl (c.Got, c.Lost, 3)) := by
    unfold law11_sane_l2
    have e : ix ([0, 1, 4] : List Int) 2 = some 4 := rfl
    simp only
    rw [if_pos (by simp), e]
    simp only [Option.bind_some]
    rw [e3]; rfl
  obtain ⟨m, em, hm, hml, hmm⟩ := missing_spec bc (by decide) (by decide) (k := 5) (by decide) (by decide)
  obtain ⟨x, ex, _, bx, gx, lx⟩ := lose_spec bc (by decide) (by decide) (k := 3) (by decide) (by decide)
  obtain ⟨s, es, hs0, hs1, hs2⟩ := settled_spec bc (by decide) (by decide)
  have hh : highL c ≤ 5 := by
    have h1 := high_nn c
    unfold highL at *
    have a1 : c.Got.length ≠ 0 → endL c.Got ≤ 5 := fun hn => by
      have := (hg _).1 (endL_mem bc.v.g.1 (by omega))
      omega
    have a2 : c.Lost.length ≠ 0 → endL c.Lost ≤ 5 := fun hn => absurd (endL_mem bc.v.l.1 (by omega)) (hl _)
    split <;> split <;> omega
  have hm2 : m = [⟨2, 4⟩] := hm.uniq ⟨by decide, by decide⟩ (fun z => by
    rw [hmm, hg, mem_one]
    have := hl z
    simp only
    constructor
    · rintro ⟨q1, q2, q3⟩
      omega
    · intro q
      exact ⟨by omega, by omega, this⟩)
  have hx2 : x.Lost = [⟨2, 3⟩] := bx.v.l.1.uniq ⟨by decide, by decide⟩ (fun z => by
    rw [lx, hg, mem_one]
    have := hl z
    simp only
    constructor
    · rintro (q | q)
      · exact absurd q this
      · omega
    · intro q
      exact .inr (by omega))
  have hs : s = 2 := by
    have q1 := hg s
    have q2 : ¬ Mem c.Got s := fun h => hs2 (.inl h)
    rw [hg] at q2
    by_cases h3 : 2 < s
    · rcases hs1 2 (by decide) h3 with g | g
      · rw [hg] at g; omega
      · exact absurd g (hl 2)
    · omega
  have s4 : law11_sane_l2 (c.Got, c.Lost, 3) = some (.inr true) := by
    unfold law11_sane_l2
    simp only
    rw [if_neg (by simp), em, ex, es, hm2, hs]
    simp only [Option.bind_some, beq_self_eq_true, Bool.and_self, if_true]
    rw [hx2, same_refl _ (by decide), same_refl _ (by decide)]
    rfl
  rw [whl s1, whl s2, whl s3, whe s4]

end Go.Proofs.Ytiihddcppmjbaaa.Sh

/- Triggers of samples as plain programs (chapters 22 and 23): what the code's detector and the reference's one compute. -/
import Derived.Test.YtmlekplbmfengaaGreatRate
import Derived.Test.YtmlekplbmfengaaGreatCont
import Derived.Test.YtmlekplbmfengaaGreatSim
namespace Go.Proofs.YtmlekplbmfengaaGreat.Sh
open Go
set_option linter.unusedVariables false
set_option linter.unusedSimpArgs false
/-- a number is a sample -/
def SmpB (x : Int) : Bool := inB x (-1073741823) 1073741823
theorem SmpB_iff {x : Int} : SmpB x = true ↔ -1073741823 ≤ x ∧ x ≤ 1073741823 := inB_iff
def isum : List Int → Int
  | [] => 0
  | x :: l => x + isum l
theorem isum_append (a b : List Int) : isum (a ++ b) = isum a + isum b := by
  induction a with
  | nil => simp [isum]
  | cons x a ih => simp only [List.cons_append, isum, ih]; omega
/-- absolute values -/
def ab (x : Int) : Int := max x (0 - x)
def absL (l : List Int) : List Int := l.map ab
theorem ab_bd {x : Int} (h : -1073741823 ≤ x ∧ x ≤ 1073741823) : 0 ≤ ab x ∧ ab x ≤ 1073741823 := by unfold ab; omega
structure DV (d : Detector) : Prop where
  s1 : 1 ≤ d.Short
  sl : d.Short < d.Long
  l1 : d.Long ≤ 512
  o1 : 1 ≤ d.Off
  oo : d.Off ≤ d.On
  o2 : d.On ≤ 10000
def DVB (d : Detector) : Bool := ((((((decide (1 ≤ d.Short)) && (decide (d.Short < d.Long))) && (decide (d.Long ≤ 512))) && (decide (1 ≤ d.Off))) && (decide (d.Off ≤ d.On))) && (decide (d.On ≤ 10000)))
theorem DVB_iff {d : Detector} : DVB d = true ↔ DV d := by
  unfold DVB
  simp only [Bool.and_eq_true, decide_eq_true_eq]
  exact ⟨fun ⟨⟨⟨⟨⟨a, b⟩, c⟩, e⟩, f⟩, g⟩ => ⟨a, b, c, e, f, g⟩, fun ⟨a, b, c, e, f, g⟩ => ⟨⟨⟨⟨⟨a, b⟩, c⟩, e⟩, f⟩, g⟩⟩
theorem dvalid_eq (d : Detector) : detector_Valid d = some (DVB d) := rfl
/-- absolute values: all from 0 to the greatest sample -/
def XV (x : List Int) : Prop := ∀ v ∈ x, 0 ≤ v ∧ v ≤ 1073741823
theorem absL_XV {l : List Int} (h : ∀ v ∈ l, -1073741823 ≤ v ∧ v ≤ 1073741823) : XV (absL l) := fun v hv => by
  obtain ⟨u, hu, rfl⟩ := List.mem_map.1 hv
  exact ab_bd (h u hu)
theorem isum_bd {x : List Int} (h : XV x) : 0 ≤ isum x ∧ isum x ≤ 1073741823 * (x.length : Int) := by
  induction x with
  | nil => simp [isum]
  | cons v x ih =>
    have h1 := h v (by simp)
    have h2 := ih (fun u hu => h u (by simp [hu]))
    simp only [isum, List.length_cons]
    push_cast
    omega
/-- the sum of the last k of the first n -/
def win (x : List Int) (n k : Nat) : Int := isum ((x.take n).drop (n - k))
theorem win_bd {x : List Int} (h : XV x) (n k : Nat) : 0 ≤ win x n k ∧ win x n k ≤ 1073741823 * (k : Int) := by
  have h1 := isum_bd (x := (x.take n).drop (n - k)) (fun v hv => h v (List.mem_of_mem_take (List.mem_of_mem_drop hv)))
  have h2 : ((x.take n).drop (n - k)).length ≤ k := by simp; omega
  unfold win
  have : (1073741823 : Int) * ((((x.take n).drop (n - k)).length : Nat) : Int) ≤ 1073741823 * (k : Int) := by omega
  omega
theorem win_push {x : List Int} {n : Nat} (hn : n < x.length) (k : Nat) : win x (n + 1) (k + 1) = win x n k + x[n] := by
  unfold win
  rw [show n + 1 - (k + 1) = n - k by omega, take_one hn, List.drop_append_of_le_length (by simp; omega), isum_append]
  simp [isum]
theorem win_pop {x : List Int} {n k : Nat} (hn : n ≤ x.length) (hk : k + 1 ≤ n) : win x n (k + 1) = x[n - (k + 1)]'(by omega) + win x n k := by
  unfold win
  have hlt : n - (k + 1) < (x.take n).length := by simp; omega
  rw [List.drop_eq_getElem_cons hlt, show n - (k + 1) + 1 = n - k by omega]
  simp only [isum, List.getElem_take]
theorem win_all {x : List Int} {n k : Nat} (hk : n ≤ k) : win x n (k + 1) = win x n k := by
  unfold win
  rw [show n - (k + 1) = 0 by omega, show n - k = 0 by omega]
theorem win_zero (x : List Int) (n : Nat) : win x n 0 = 0 := by
  unfold win
  rw [Nat.sub_zero, List.drop_eq_nil_of_le (by simp; omega)]; rfl
def reach (d : Detector) (s l p : Int) : Bool := (l != 0) && decide (p * d.Short * l ≤ 100 * d.Long * s)
theorem mul_le2 {a b A B : Int} (a0 : 0 ≤ a) (a1 : a ≤ A) (b0 : 0 ≤ b) (b1 : b ≤ B) : 0 ≤ a * b ∧ a * b ≤ A * B :=
  ⟨Int.mul_nonneg a0 b0, Int.mul_le_mul a1 b1 b0 (by omega)⟩
theorem reaches_w {d : Detector} (hd : DV d) {s l p : Int} (s0 : 0 ≤ s) (s1 : s ≤ 549755813376) (l0 : 0 ≤ l) (l1 : l ≤ 549755813376) (p0 : 0 ≤ p) (p1 : p ≤ 10000) :
    ((l != 0) && (decide ((w64 ((w64 (p * d.Short)) * l)) ≤ (w64 ((w64 (100 * d.Long)) * s))))) = reach d s l p := by
  have h1 := hd.s1; have h2 := hd.sl; have h3 := hd.l1
  have a1 := mul_le2 (a := p) (b := d.Short) (A := 10000) (B := 511) p0 p1 (by omega) (by omega)
  have a2 := mul_le2 (a := p * d.Short) (b := l) (A := 5110000) (B := 549755813376) a1.1 (by omega) l0 l1
  have a4 := mul_le2 (a := 100 * d.Long) (b := s) (A := 51200) (B := 549755813376) (by omega) (by omega) s0 s1
  rw [w64_id (x := p * d.Short) (by omega) (by omega), w64_id (x := p * d.Short * l) (by omega) (by omega), w64_id (x := 100 * d.Long) (by omega) (by omega), w64_id (x := 100 * d.Long * s) (by omega) (by omega)]
  rfl
theorem reaches_eq {d : Detector} (hd : DV d) {s l p : Int} (s0 : 0 ≤ s) (s1 : s ≤ 549755813376) (l0 : 0 ≤ l) (l1 : l ≤ 549755813376) (p0 : 0 ≤ p) (p1 : p ≤ 10000) : detector_reaches d s l p = some (reach d s l p) := by
  unfold detector_reaches; rw [reaches_w hd s0 s1 l0 l1 p0 p1]
/-- one sample more -/
def trS (d : Detector) (x : List Int) (n : Nat) (s : Trigger × List Trigger) : Trigger × List Trigger :=
  if s.1.On < 0 then
    (if reach d (win x (n + 1) d.Short.toNat) (win x (n + 1) d.Long.toNat) d.On = true then (⟨n, -1, x.getD n 0⟩, s.2) else s)
  else if reach d (win x (n + 1) d.Short.toNat) (win x (n + 1) d.Long.toNat) d.Off = true then (⟨s.1.On, s.1.Off, max s.1.Peak (x.getD n 0)⟩, s.2)
  else (⟨-1, 0, 0⟩, s.2 ++ [⟨s.1.On, n, s.1.Peak⟩])
/-- the trigger that is open, and those that have ended, behind n samples -/
def trF (d : Detector) (x : List Int) : Nat → Trigger × List Trigger
  | 0 => (⟨-1, 0, 0⟩, [])
  | n + 1 => if n + 1 < d.Long.toNat then trF d x n else trS d x n (trF d x n)
def trAll (d : Detector) (x : List Int) (n : Nat) : List Trigger := if 0 ≤ (trF d x n).1.On then (trF d x n).2 ++ [(trF d x n).1] else (trF d x n).2
structure TI (d : Detector) (x : List Int) (n : Nat) (s : Trigger × List Trigger) : Prop where
  op : s.1 = ⟨-1, 0, 0⟩ ∨ (d.Long - 1 ≤ s.1.On ∧ s.1.On < n ∧ s.1.Off = -1 ∧ 0 ≤ s.1.Peak ∧ s.1.Peak ≤ 1073741823)
  en : ∀ t ∈ s.2, d.Long - 1 ≤ t.On ∧ t.On < t.Off ∧ t.Off < n ∧ 0 ≤ t.Peak ∧ t.Peak ≤ 1073741823
  len : s.2.length ≤ n
theorem TI.all {d : Detector} {x : List Int} (hd : DV d) (hx : XV x) : ∀ n, n ≤ x.length → TI d x n (trF d x n)
  | 0, _ => ⟨.inl rfl, by simp [trF], by simp [trF]⟩
  | n + 1, hn => by
    have ih := TI.all hd hx n (by omega)
    have h1 := hd.s1; have h2 := hd.sl
    have hv : 0 ≤ x.getD n 0 ∧ x.getD n 0 ≤ 1073741823 := by
      rw [List.getD_eq_getElem?_getD, List.getElem?_eq_getElem (show n < x.length by omega)]
      exact hx _ (List.getElem_mem _)
    have up : TI d x (n + 1) (trF d x n) := by
      refine ⟨ih.op.imp id fun ⟨a, b, c⟩ => ⟨a, by omega, c⟩, fun t ht => ?_, by have := ih.len; omega⟩
      have := ih.en t ht
      omega
    unfold trF
    by_cases hl : n + 1 < d.Long.toNat
    · rw [if_pos hl]; exact up
    · rw [if_neg hl]
      unfold trS
      by_cases ho : (trF d x n).1.On < 0
      · rw [if_pos ho]
        split
        · exact ⟨.inr ⟨by simp only; omega, by simp only; omega, rfl, hv⟩, up.en, up.len⟩
        · exact up
      · rw [if_neg ho]
        rcases ih.op with h | ⟨a, b, c, e, f⟩
        · rw [h] at ho; exact absurd (by decide) ho
        split
        · exact ⟨.inr ⟨a, by simp only; omega, c, by simp only; omega, by simp only; omega⟩, up.en, up.len⟩
        · refine ⟨.inl rfl, fun t ht => ?_, ?_⟩
          · rcases List.mem_append.1 ht with ht | ht
            · exact up.en t ht
            · rcases List.mem_singleton.1 ht with rfl
              exact ⟨a, by simp only; omega, by simp only; omega, e, f⟩
          · have := ih.len
            simp; omega
theorem trAll_mem {d : Detector} {x : List Int} (hd : DV d) (hx : XV x) {t : Trigger} (h : t ∈ trAll d x x.length) : d.Long - 1 ≤ t.On ∧ t.On < x.length ∧ (t.Off = -1 ∨ t.On < t.Off ∧ t.Off < x.length) ∧ 0 ≤ t.Peak ∧ t.Peak ≤ 1073741823 := by
  have hi := TI.all hd hx x.length (Nat.le_refl _)
  have h1 := hd.s1; have h2 := hd.sl
  unfold trAll at h
  split at h
  · next hp =>
    rcases List.mem_append.1 h with h | h
    · have := hi.en t h; omega
    · rcases List.mem_singleton.1 h with rfl
      rcases hi.op with e | e
      · rw [e] at hp; exact absurd hp (by decide)
      · omega
  · have := hi.en t h; omega
theorem trAll_len {d : Detector} {x : List Int} (hd : DV d) (hx : XV x) : (trAll d x x.length).length ≤ x.length + 1 := by
  have hi := (TI.all hd hx x.length (Nat.le_refl _)).len
  unfold trAll
  split
  · simp; omega
  · omega
/-! ### the code -/
theorem abs_eq {x : Int} (h : -1073741823 ≤ x ∧ x ≤ 1073741823) : detector_abs x = some (ab x) := by
  unfold detector_abs ab
  rw [w64_id (by omega) (by omega)]; rfl
def past (d : Detector) (x : List Int) (n : Nat) : List Int := (x.take n).drop (n - (d.Long.toNat - 1))
theorem look_tail {d : Detector} (hd : DV d) {x : List Int} (hx : XV x) {n : Nat} (hn : n < x.length) (hb : x.length ≤ 65536) (o : Trigger) (e0 en : List Trigger) (on off pk : Int) :
    detector_window_look_j1 ⟨⟨d, past d x n, n, o⟩, win x n (d.Short.toNat - 1), win x n (d.Long.toNat - 1), e0⟩ x[n] on off pk en =
      some ⟨⟨d, past d x (n + 1), ((n + 1 : Nat) : Int), ⟨on, off, if 0 ≤ on then max pk x[n] else pk⟩⟩, win x (n + 1) (d.Short.toNat - 1), win x (n + 1) (d.Long.toNat - 1), en⟩ := by
  have h1 := hd.s1; have h2 := hd.sl; have h3 := hd.l1
  obtain ⟨s, hs⟩ : ∃ s, d.Short.toNat = s + 1 := ⟨d.Short.toNat - 1, by omega⟩
  obtain ⟨l, hl⟩ : ∃ l, d.Long.toNat = l + 1 := ⟨d.Long.toNat - 1, by omega⟩
  have hsl : s < l := by omega
  have hv := hx _ (List.getElem_mem hn)
  have bs := win_bd hx n s
  have bl := win_bd hx n l
  have bs1 := win_bd hx (n + 1) (s + 1)
  have bl1 := win_bd hx (n + 1) (l + 1)
  have bs0 := win_bd hx (n + 1) s
  have bl0 := win_bd hx (n + 1) l
  have ps := win_push hn s
  have pl := win_push hn l
  have hw1 : w64 ((n : Int) + 1) = ((n + 1 : Nat) : Int) := by rw [w64_id (by omega) (by omega)]; rfl
  -- the samples that are kept
  have hp' : past d x n ++ [x[n]] = (x.take (n + 1)).drop (n + 1 - (l + 1)) := by
    unfold past
    rw [hl, take_one hn, show n - (l + 1 - 1) = n + 1 - (l + 1) by omega, List.drop_append_of_le_length (by simp; omega)]
  have hlen : (past d x n ++ [x[n]]).length = min (n + 1) (l + 1) := by rw [hp']; simp; omega
  have hlp : (past d x n).length ≤ 600 := by unfold past; simp; omega
  have j3 : ∀ (pk' sh' : Int), sh' = win x (n + 1) s → detector_window_look_j3 ⟨⟨d, past d x n, n, o⟩, win x n s, win x n l, e0⟩ x[n] on off en pk' (past d x n ++ [x[n]]) sh' =
      some ⟨⟨d, past d x (n + 1), ((n + 1 : Nat) : Int), ⟨on, off, pk'⟩⟩, win x (n + 1) s, win x (n + 1) l, en⟩ := by
    intro pk' sh' hsh
    subst hsh
    unfold detector_window_look_j3 detector_window_look_j4
    simp only
    rw [hw1, ← pl, w64_id (x := win x (n + 1) (l + 1)) (by omega) (by omega)]
    by_cases hc : n + 1 < l + 1
    · rw [if_neg (by rw [beq_iff_eq, hlen]; omega)]
      have e1 : past d x (n + 1) = past d x n ++ [x[n]] := by
        rw [hp']; unfold past; rw [hl, show n + 1 - (l + 1 - 1) = 0 by omega, show n + 1 - (l + 1) = 0 by omega]
      rw [e1, win_all (by omega)]
    · rw [if_pos (by rw [beq_iff_eq, hlen]; omega)]
      have hx0 : ix (past d x n ++ [x[n]]) 0 = some (x[n - l]'(by omega)) := by
        rw [show (0 : Int) = ((0 : Nat) : Int) from rfl, ix_nat _ _ (by rw [hlen]; omega)]
        congr 1
        simp only [hp', List.getElem_drop, List.getElem_take]
        congr 1
        omega
      have hsub : subM (past d x n ++ [x[n]]) 1 (((past d x n ++ [x[n]]).length : Nat) : Int) = some (past d x (n + 1)) := by
        unfold subM
        rw [if_pos (by rw [hlen]; omega)]
        congr 1
        rw [Int.toNat_natCast, List.take_length, hp', List.drop_drop]
        unfold past
        rw [hl]
        congr 1
        have : (1 : Int).toNat = 1 := rfl
        omega
      rw [hx0, hsub]
      simp only [Option.bind_some]
      have hpop := win_pop (x := x) (n := n + 1) (k := l) (by omega) (by omega)
      have hix : x[n + 1 - (l + 1)]'(by omega) = x[n - l]'(by omega) := by congr 1; omega
      rw [hix] at hpop
      rw [hpop, w64_id (by omega) (by omega)]
      congr 4
      omega
  have j2 : ∀ (pk' : Int), detector_window_look_j2 ⟨⟨d, past d x n, n, o⟩, win x n s, win x n l, e0⟩ x[n] on off en pk' =
      some ⟨⟨d, past d x (n + 1), ((n + 1 : Nat) : Int), ⟨on, off, pk'⟩⟩, win x (n + 1) s, win x (n + 1) l, en⟩ := by
    intro pk'
    unfold detector_window_look_j2
    simp only
    rw [appM_one _ _ _ (by simp; omega) (by decide)]
    simp only [Option.bind_some]
    rw [← ps, w64_id (x := win x (n + 1) (s + 1)) (by omega) (by omega)]
    by_cases hc : s + 1 ≤ n + 1
    · rw [if_pos (decide_eq_true (by rw [hlen]; omega))]
      have hxi : ix (past d x n ++ [x[n]]) (w64 ((((past d x n ++ [x[n]]).length : Nat) : Int) - d.Short)) = some (x[n - s]'(by omega)) := by
        have e : w64 ((((past d x n ++ [x[n]]).length : Nat) : Int) - d.Short) = (((past d x n ++ [x[n]]).length - (s + 1) : Nat) : Int) := by
          rw [w64_id (by omega) (by omega)]; omega
        rw [e, ix_nat _ _ (by omega)]
        congr 1
        simp only [hp', List.getElem_drop, List.getElem_take]
        congr 1
        have := hlen
        rw [hp'] at this
        omega
      rw [hxi]
      simp only [Option.bind_some]
      refine j3 _ _ ?_
      have hpop := win_pop (x := x) (n := n + 1) (k := s) (by omega) (by omega)
      have hix : x[n + 1 - (s + 1)]'(by omega) = x[n - s]'(by omega) := by congr 1; omega
      rw [hix] at hpop
      rw [hpop, w64_id (by omega) (by omega)]
      omega
    · rw [if_neg (by simp only [decide_eq_true_eq]; rw [hlen]; omega)]
      exact j3 _ _ (win_all (by omega))
  unfold detector_window_look_j1
  rw [hs, hl, Nat.add_sub_cancel, Nat.add_sub_cancel]
  by_cases hon : 0 ≤ on
  · rw [if_pos (decide_eq_true hon), if_pos hon]
    exact j2 _
  · rw [if_neg (by simpa using hon), if_neg hon]
    exact j2 _
theorem getD_at' {l : List Int} {k : Nat} (h : k < l.length) : l.getD k 0 = l[k] := by simp [List.getD_eq_getElem?_getD, h]
/-- the window's state behind n samples -/
def wst (d : Detector) (x : List Int) (n : Nat) : Detector_window := ⟨⟨d, past d x n, n, (trF d x n).1⟩, win x n (d.Short.toNat - 1), win x n (d.Long.toNat - 1), (trF d x n).2⟩
theorem look_spec {d : Detector} (hd : DV d) {x : List Int} (hx : XV x) {n : Nat} (hn : n < x.length) (hb : x.length ≤ 65536) {y : Int} (hy : detector_abs y = some x[n]) : detector_window_look (wst d x n) y = some (wst d x (n + 1)) := by
  have h1 := hd.s1; have h2 := hd.sl; have h3 := hd.l1
  have hti := TI.all hd hx n (by omega)
  have hv := hx _ (List.getElem_mem hn)
  have hw1 : w64 ((n : Int) + 1) = ((n + 1 : Nat) : Int) := by rw [w64_id (by omega) (by omega)]; rfl
  have es : w64 (win x n (d.Short.toNat - 1) + x[n]) = win x (n + 1) d.Short.toNat := by
    have := win_push hn (d.Short.toNat - 1)
    rw [show d.Short.toNat - 1 + 1 = d.Short.toNat by omega] at this
    have b := win_bd hx (n + 1) d.Short.toNat
    rw [← this, w64_id (by omega) (by omega)]
  have el : w64 (win x n (d.Long.toNat - 1) + x[n]) = win x (n + 1) d.Long.toNat := by
    have := win_push hn (d.Long.toNat - 1)
    rw [show d.Long.toNat - 1 + 1 = d.Long.toNat by omega] at this
    have b := win_bd hx (n + 1) d.Long.toNat
    rw [← this, w64_id (by omega) (by omega)]
  have bs := win_bd hx (n + 1) d.Short.toNat
  have bl := win_bd hx (n + 1) d.Long.toNat
  have r1 := reaches_eq hd (s := win x (n + 1) d.Short.toNat) (l := win x (n + 1) d.Long.toNat) (p := d.On) bs.1 (by omega) bl.1 (by omega) (by have := hd.o1; have := hd.oo; omega) hd.o2
  have r2 := reaches_eq hd (s := win x (n + 1) d.Short.toNat) (l := win x (n + 1) d.Long.toNat) (p := d.Off) bs.1 (by omega) bl.1 (by omega) (by have := hd.o1; omega) (by have := hd.oo; have := hd.o2; omega)
  have hlen := hti.len
  have hg := getD_at' hn
  unfold detector_window_look wst
  rw [hy]
  simp only [Option.bind_some]
  rw [hw1, es, el, r1, r2]
  simp only [Option.bind_some]
  have e0 : trF d x (n + 1) = if n + 1 < d.Long.toNat then trF d x n else trS d x n (trF d x n) := rfl
  by_cases hl : n + 1 < d.Long.toNat
  · rw [if_neg (by simp only [decide_eq_true_eq]; omega), look_tail hd hx hn hb, e0, if_pos hl]
    -- nothing is open yet
    have hneg : ¬ 0 ≤ (trF d x n).1.On := by
      rcases hti.op with h | h
      · rw [h]; decide
      · omega
    rw [if_neg hneg]
  · rw [if_pos (decide_eq_true (by omega)), e0, if_neg hl]
    unfold trS
    by_cases ho : (trF d x n).1.On < 0
    · have hop : (trF d x n).1 = ⟨-1, 0, 0⟩ := hti.op.resolve_right (by omega)
      rw [if_neg (show ¬ decide (0 ≤ (trF d x n).1.On) = true by simp; omega), if_pos ho, if_pos (decide_eq_true ho)]
      simp only [Option.bind_some, Bool.false_eq_true, if_false]
      by_cases hr : reach d (win x (n + 1) d.Short.toNat) (win x (n + 1) d.Long.toNat) d.On = true
      · rw [if_pos hr, if_pos hr]
        unfold detector_window_look_j6 detector_window_look_j5
        simp only
        rw [look_tail hd hx hn hb, w64_id (x := ((n + 1 : Nat) : Int) - 1) (by omega) (by omega)]
        rw [show ((n + 1 : Nat) : Int) - 1 = (n : Int) by omega, if_pos (by omega), hg, show max 0 x[n] = x[n] by omega]
      · rw [if_neg hr, if_neg hr]
        unfold detector_window_look_j6 detector_window_look_j5
        simp only
        rw [look_tail hd hx hn hb, if_neg (by omega)]
    · rw [if_pos (show decide (0 ≤ (trF d x n).1.On) = true from decide_eq_true (by omega)), if_neg ho]
      simp only [Option.bind_some]
      by_cases hr : reach d (win x (n + 1) d.Short.toNat) (win x (n + 1) d.Long.toNat) d.Off = true
      · rw [hr]
        simp only [Bool.not_true, Bool.false_eq_true, if_false]
        rw [if_neg (show ¬ decide ((trF d x n).1.On < 0) = true by simpa using ho)]
        simp only [Option.bind_some, Bool.false_eq_true, if_false, if_true]
        unfold detector_window_look_j6 detector_window_look_j5
        simp only
        rw [look_tail hd hx hn hb, if_pos (by omega), hg]
      · have hr' : reach d (win x (n + 1) d.Short.toNat) (win x (n + 1) d.Long.toNat) d.Off = false := by simpa using hr
        rw [hr']
        simp only [Bool.not_false, if_true, Bool.false_eq_true, if_false]
        rw [appM_one _ _ _ (by simp; omega) (by decide)]
        simp only [Option.bind_some]
        unfold detector_window_look_j5
        rw [look_tail hd hx hn hb, w64_id (x := ((n + 1 : Nat) : Int) - 1) (by omega) (by omega), if_neg (by decide), show ((n + 1 : Nat) : Int) - 1 = (n : Int) by omega]
theorem wrong_any (l : List Int) (hl : l.length ≤ 65536) : slices_ContainsFunc_Lint_int l detector_wrong = some (!(l.all SmpB)) := by
  rw [contains_spec (fun x => !SmpB x) detector_wrong (fun x => rfl) l (by omega), List.all_eq_not_any_not, Bool.not_not]
theorem all_smp {l : List Int} (h : l.all SmpB = true) : ∀ v ∈ l, -1073741823 ≤ v ∧ v ≤ 1073741823 := fun v hv => SmpB_iff.1 (List.all_eq_true.1 h v hv)
theorem absL_len (l : List Int) : (absL l).length = l.length := by simp [absL]
/-- what Run hands back -/
def runR (l : List Trigger) : List Trigger × Int := if 1024 < l.length then ([], 8) else (l, 0)
def runV (d : Detector) (l : List Int) : List Trigger × Int :=
  if DVB d = false then ([], 1) else if 65536 < l.length then ([], 8) else if l.all SmpB = false then ([], 2) else runR (trAll d (absL l) l.length)
theorem Run_spec (d : Detector) (l : List Int) : detector_Run d l = some (runV d l) := by
  unfold detector_Run runV
  rw [dvalid_eq]
  simp only [Option.bind_some]
  cases hd : DVB d with
  | false => rfl
  | true =>
    have hD := DVB_iff.1 hd
    have h1 := hD.s1; have h2 := hD.sl; have h3 := hD.l1
    simp only [Bool.not_true, Bool.false_eq_true, if_false, Bool.true_eq_false]
    by_cases hb : 65536 < l.length
    · rw [if_pos (decide_eq_true (by omega)), if_pos hb]
    · rw [if_neg (by simp; omega), if_neg hb, wrong_any _ (by omega)]
      simp only [Option.bind_some]
      cases ha : l.all SmpB with
      | false => rfl
      | true =>
        have hs := all_smp ha
        have hX := absL_XV hs
        have hL := absL_len l
        simp only [Bool.not_true, Bool.false_eq_true, if_false, Bool.true_eq_false]
        unfold detector_Start
        rw [dvalid_eq, hd]
        simp only [Option.bind_some, Bool.not_true, Bool.false_eq_true, if_false]
        have hopen : detector_open (⟨d, [], 0, ⟨-1, 0, 0⟩⟩ : Watch) = some (wst d (absL l) 0) := by
          unfold detector_open
          have e1 : w64 (w64 ((0 : Int) - d.Short) + 1) = 1 - d.Short := by rw [w64_id (x := (0 : Int) - d.Short) (by omega) (by omega), w64_id (by omega) (by omega)]; omega
          have e2 : max 0 (1 - d.Short) = 0 := by omega
          have e3 : makeCM 8 (0 : Int) 0 (w64 ((0 : Int) + 512)) = some [] := by decide
          have e4 : detector_sum [] = some 0 := by
            unfold detector_sum
            rw [whileM_eq]; rfl
          simp only [List.length_nil, Int.natCast_zero, Option.bind_some]
          rw [e3]
          simp only [Option.bind_some, List.length_nil, Int.natCast_zero]
          rw [show copyM ([] : List Int) 0 0 [] = [] from rfl]
          simp only [List.length_nil, Int.natCast_zero]
          rw [e1, e2, show subM ([] : List Int) 0 0 = some [] from rfl]
          simp only [Option.bind_some]
          rw [e4]
          simp only [Option.bind_some]
          unfold wst past
          simp [trF, win, isum]
        rw [hopen]
        simp only [Option.bind_some]
        have hw := whileM_for' (body := detector_Run_l1 l) (s := ((wst d (absL l) 0).Watch.Detector.Short, (wst d (absL l) 0).Watch.Detector.Long, (wst d (absL l) 0).Watch.Detector.On, (wst d (absL l) 0).Watch.Detector.Off, (wst d (absL l) 0).Watch.Past, (wst d (absL l) 0).Watch.Count, (wst d (absL l) 0).Watch.Open.On, (wst d (absL l) 0).Watch.Open.Off, (wst d (absL l) 0).Watch.Open.Peak, (wst d (absL l) 0).short_, (wst d (absL l) 0).long_, (wst d (absL l) 0).ended_, 0))
          (fun n => ((wst d (absL l) n).Watch.Detector.Short, (wst d (absL l) n).Watch.Detector.Long, (wst d (absL l) n).Watch.Detector.On, (wst d (absL l) n).Watch.Detector.Off, (wst d (absL l) n).Watch.Past, (wst d (absL l) n).Watch.Count, (wst d (absL l) n).Watch.Open.On, (wst d (absL l) n).Watch.Open.Off, (wst d (absL l) n).Watch.Open.Peak, (wst d (absL l) n).short_, (wst d (absL l) n).long_, (wst d (absL l) n).ended_, (n : Int))) l.length
          ((wst d (absL l) l.length).Watch.Detector.Short, (wst d (absL l) l.length).Watch.Detector.Long, (wst d (absL l) l.length).Watch.Detector.On, (wst d (absL l) l.length).Watch.Detector.Off, (wst d (absL l) l.length).Watch.Past, (wst d (absL l) l.length).Watch.Count, (wst d (absL l) l.length).Watch.Open.On, (wst d (absL l) l.length).Watch.Open.Off, (wst d (absL l) l.length).Watch.Open.Peak, (wst d (absL l) l.length).short_, (wst d (absL l) l.length).long_, (wst d (absL l) l.length).ended_) rfl
          (fun i hi => by
            have hlook := look_spec hD hX (n := i) (by omega) (by omega) (y := l[i]) (by rw [abs_eq (hs _ (List.getElem_mem hi))]; simp [absL])
            unfold detector_Run_l1
            simp only
            rw [if_pos (decide_eq_true (by omega)), ix_nat _ _ hi]
            simp only [Option.bind_some]
            have e : ∀ (w : Detector_window), (⟨(⟨(⟨w.Watch.Detector.Short, w.Watch.Detector.Long, w.Watch.Detector.On, w.Watch.Detector.Off⟩ : Detector), w.Watch.Past, w.Watch.Count, (⟨w.Watch.Open.On, w.Watch.Open.Off, w.Watch.Open.Peak⟩ : Trigger)⟩ : Watch), w.short_, w.long_, w.ended_⟩ : Detector_window) = w := fun w => rfl
            rw [e, hlook]
            simp only [Option.bind_some]
            rw [w64_id (by omega) (by omega)]; rfl)
          (by unfold detector_Run_l1; simp only; rw [if_neg (by simp)])
        rw [hw]
        simp only [Option.bind_some]
        have hti := TI.all hD hX l.length (by omega)
        have hlen := hti.len
        unfold runR trAll
        have e1 : (wst d (absL l) l.length).Watch.Open = (trF d (absL l) l.length).1 := rfl
        have e2 : (wst d (absL l) l.length).ended_ = (trF d (absL l) l.length).2 := rfl
        rw [e1, e2]
        have j2 : ∀ z : List Trigger, detector_Run_j2 z = some (if 1024 < z.length then ([], 8) else (z, 0)) := fun z => by
          unfold detector_Run_j2
          by_cases hz : 1024 < z.length
          · rw [if_pos (decide_eq_true (by omega)), if_pos hz]
          · rw [if_neg (by simp; omega), if_neg hz]
        by_cases ho : 0 ≤ (trF d (absL l) l.length).1.On
        · rw [if_pos (decide_eq_true ho), if_pos ho, appM_one _ _ _ (by simp; omega) (by decide)]
          simp only [Option.bind_some]
          exact j2 _
        · rw [if_neg (by simpa using ho), if_neg ho]
          exact j2 _
end Go.Proofs.YtmlekplbmfengaaGreat.Sh

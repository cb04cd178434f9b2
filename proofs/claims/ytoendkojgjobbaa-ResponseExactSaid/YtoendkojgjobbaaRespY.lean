/- The reference's numbers and gains as plain programs (chapter 18). -/
import Derived.Test.YtoendkojgjobbaaRespX
namespace Go.Proofs.Ytoendkojgjobbaa.Sh
open Go
set_option linter.unusedVariables false
set_option linter.unusedSimpArgs false

theorem rfrom_spec {n : Int} (h0 : 0 ≤ n) (h1 : n ≤ 9223372036854775807) : ∃ l, ref17_From n = some (l, 0) ∧ NV l n ∧ l.length ≤ 3 := by
  unfold ref17_From
  rw [if_neg (by simp; omega)]
  obtain ⟨r, e, hr⟩ := loop_ex (b1 := ref17_From_l1) (fun k s => ∃ m : Nat, m ≤ 3 ∧ s.2.length = m ∧ Dg s.2 ∧ 0 ≤ s.1 ∧ s.1 ≤ 9223372036854775807 / 1073741824 ^ m ∧ val s.2 + 1073741824 ^ m * s.1 = n ∧ (s.1 = 0 → Tr s.2) ∧ k + m = 3)
    (fun r => NV r n ∧ r.length ≤ 3)
    (fun k s ⟨m, hm, hl, hd, s0, s1, hv, ht, hk⟩ => by
      obtain ⟨c, l⟩ := s
      simp only at hl hd s0 s1 hv ht
      by_cases hc : 0 < c
      · left
        have hm3 : m < 3 := by
          rcases Nat.lt_or_ge m 3 with h | h
          · exact h
          · have : m = 3 := by omega
            subst this
            have : (9223372036854775807 : Int) / 1073741824 ^ 3 = 0 := by decide
            omega
        have et : Int.tmod c 1073741824 = c % 1073741824 := Int.tmod_eq_emod_of_nonneg s0
        have es : w64 (Int.tdiv c 1073741824) = c / 1073741824 := by
          have hcm : c ≤ 9223372036854775807 := by
            have h3 : m = 0 ∨ m = 1 ∨ m = 2 := by omega
            rcases h3 with rfl | rfl | rfl <;> simp at s1 <;> omega
          rw [Int.tdiv_eq_ediv_of_nonneg s0, w64_id (by omega) (by omega)]
        refine ⟨(c / 1073741824, l ++ [c % 1073741824]), k - 1, ?_, ⟨m + 1, by omega, by simp; omega, hd.app (Dg.one (by omega) (by omega)), by simp only; omega, ?_, ?_, ?_, by omega⟩, by omega⟩
        · unfold ref17_From_l1
          simp only
          rw [if_pos (decide_eq_true hc), et, appM_one _ _ _ (by simp; omega) (by decide)]
          simp only [Option.bind]
          rw [es]
        · simp only
          have : m = 0 ∨ m = 1 ∨ m = 2 := by omega
          rcases this with rfl | rfl | rfl <;> simp at s1 ⊢ <;> omega
        · simp only [val_append, val, hl, Int.pow_succ]
          rw [← hv, Int.mul_assoc, Int.add_assoc, ← Int.mul_add]
          congr 2
          omega
        · intro hz
          simp only at hz ⊢
          intro _
          simp
          omega
      · right
        refine ⟨l, ?_, ⟨⟨hd, ht (by omega), ?_⟩, by omega⟩⟩
        · unfold ref17_From_l1
          simp only
          rw [if_neg (by simp; omega)]
        · have : c = 0 := by omega
          subst this
          simpa using hv) 3 (n, []) ⟨0, by omega, rfl, by simp [Dg], h0, by simpa using h1, by simp [val], fun _ => fun h => by simp at h, rfl⟩
  rw [e]
  exact ⟨r, rfl, hr.1, hr.2⟩

theorem rlimited_eq (l : List Int) : ref17_limited l = some (if l.length ≤ 64 then (l, 0) else ([], 8)) := by
  unfold ref17_limited
  by_cases h6 : l.length ≤ 64
  · rw [if_neg (by simp; omega), if_pos h6]
  · rw [if_pos (decide_eq_true (by omega)), if_neg h6]
theorem rmul17_spec {a b : List Int} {va vb : Int} (ha : NW a va) (hb : NW b vb) : ∃ r, NV r (va * vb) ∧ r.length ≤ a.length + b.length ∧ ref17_Mul a b = some (if r.length ≤ 64 then (r, 0) else ([], 8)) := by
  have la := ha.len
  have lb := hb.len
  obtain ⟨r, e, hr, hl⟩ := rmul_spec ha.toNV hb.toNV (by omega) (by omega)
  refine ⟨r, hr, hl, ?_⟩
  unfold ref17_Mul
  rw [rvalid17_true ha, rvalid17_true hb, e]
  simp only [Option.bind, Bool.not_true, Bool.false_eq_true, if_false]
  rw [rlimited_eq]
theorem Tr.app {l : List Int} {x : Int} (h : x ≠ 0) : Tr (l ++ [x]) := fun h0 => by simpa using h
theorem radd17_spec {a b : List Int} {va vb : Int} (ha : NW a va) (hb : NW b vb) : ∃ r, NV r (va + vb) ∧ r.length ≤ max a.length b.length + 1 ∧ ref17_Add a b = some (if r.length ≤ 64 then (r, 0) else ([], 8)) := by
  have la := ha.len
  have lb := hb.len
  obtain ⟨m, hm⟩ : ∃ m, max a.length b.length = m := ⟨_, rfl⟩
  obtain ⟨t, e, hd, hl⟩ := loop_ex (b1 := ref17_Add_l1 a b)
    (fun q s => ∃ i : Nat, s.2.2 = (i : Int) ∧ q + i = m + 1 ∧ i ≤ m + 1 ∧ s.1.length = i ∧ Dg s.1 ∧ 0 ≤ s.2.1 ∧ s.2.1 ≤ 1 ∧ val s.1 + s.2.1 * 1073741824 ^ i = val (a.take i) + val (b.take i) ∧ (m < i → s.2.1 = 0) ∧ (m ≤ i → s.2.1 = 0 → Tr s.1))
    (fun r => NV r (va + vb) ∧ r.length ≤ m + 1)
    (fun q s ⟨i, hi, hq, him, hl, hd, c0, c1, hv, hz, ht⟩ => by
      obtain ⟨out, c, i'⟩ := s
      simp only at hi hl hd c0 c1 hv hz ht
      subst hi
      have xa := ha.dg.getD i
      have xb := hb.dg.getD i
      obtain ⟨x, hx⟩ : ∃ x, a.getD i 0 = x := ⟨_, rfl⟩
      obtain ⟨y, hy⟩ : ∃ y, b.getD i 0 = y := ⟨_, rfl⟩
      rw [hx] at xa
      rw [hy] at xb
      by_cases hgo : i < m ∨ 0 < c
      · left
        have s0 : 0 ≤ c + x + y := by omega
        have him' : i ≤ m := by
          rcases hgo with h | h
          · omega
          · rcases Nat.lt_or_ge m i with h2 | h2
            · have := hz h2; omega
            · exact h2
        refine ⟨(out ++ [(c + x + y) % 1073741824], (c + x + y) / 1073741824, ((i + 1 : Nat) : Int)), q - 1, ?_, ⟨i + 1, rfl, by omega, by omega, by simp; omega, hd.app (Dg.one (by omega) (by omega)), by simp only; omega, by simp only; omega, ?_, ?_, ?_⟩, by omega⟩
        · have j2 : ∀ z : Int, z = c + x + y → ref17_Add_j2 (out, c, (i : Int)) z = some (.inl (out ++ [(c + x + y) % 1073741824], (c + x + y) / 1073741824, ((i + 1 : Nat) : Int))) := by
            rintro z rfl
            unfold ref17_Add_j2
            simp only
            rw [tmod_nn s0, appM_one _ _ _ (by simp; omega) (by decide), Int.tdiv_eq_ediv_of_nonneg s0]
            simp only [Option.bind]
            rw [w64_id (x := (c + x + y) / 1073741824) (by omega) (by omega), w64_id (by omega) (by omega)]; rfl
          have j1 : ∀ z : Int, z = c + x → ref17_Add_j1 b (out, c, (i : Int)) z = some (.inl (out ++ [(c + x + y) % 1073741824], (c + x + y) / 1073741824, ((i + 1 : Nat) : Int))) := by
            rintro z rfl
            unfold ref17_Add_j1
            simp only
            by_cases hib : i < b.length
            · rw [if_pos (decide_eq_true (by omega)), ix_nat _ _ hib, ← getD_at hib, hy]
              simp only [Option.bind]
              rw [w64_id (by omega) (by omega)]
              exact j2 _ rfl
            · have hy0 : y = 0 := by rw [← hy]; simp [List.getD_eq_getElem?_getD, List.getElem?_eq_none (show b.length ≤ i by omega)]
              rw [if_neg (by simp; omega)]
              exact j2 _ (by omega)
          unfold ref17_Add_l1
          simp only
          have hc : ((decide ((i : Int) < (a.length : Int)) || decide ((i : Int) < (b.length : Int))) || decide (0 < c)) = true := by
            simp only [Bool.or_eq_true, decide_eq_true_eq]; omega
          rw [if_pos hc]
          by_cases hia : i < a.length
          · rw [if_pos (decide_eq_true (by omega)), ix_nat _ _ hia, ← getD_at hia, hx]
            simp only [Option.bind]
            rw [w64_id (by omega) (by omega)]
            exact j1 _ rfl
          · have hx0 : x = 0 := by rw [← hx]; simp [List.getD_eq_getElem?_getD, List.getElem?_eq_none (show a.length ≤ i by omega)]
            rw [if_neg (by simp; omega)]
            exact j1 _ (by omega)
        · simp only
          rw [val_append, val_take', val_take', hx, hy, hl, Int.pow_succ]
          simp only [val]
          have hmm : (c + x + y) % 1073741824 + ((c + x + y) / 1073741824) * 1073741824 = c + x + y := by omega
          generalize (c + x + y) % 1073741824 = sm at *
          generalize (c + x + y) / 1073741824 = sd at *
          generalize (1073741824 : Int) ^ i = Q at *
          generalize val out = vo at *
          generalize val (a.take i) = u at *
          generalize val (b.take i) = v at *
          grind
        · intro hgt
          simp only at hgt ⊢
          have : x = 0 := by rw [← hx]; simp [List.getD_eq_getElem?_getD, List.getElem?_eq_none (show a.length ≤ i by omega)]
          have : y = 0 := by rw [← hy]; simp [List.getD_eq_getElem?_getD, List.getElem?_eq_none (show b.length ≤ i by omega)]
          omega
        · intro hge hc0
          simp only at hge hc0 ⊢
          refine Tr.app fun h0 => ?_
          have hsum : c + x + y = 0 := by omega
          have hx0 : x = 0 := by omega
          have hy0 : y = 0 := by omega
          rcases hgo with hlt | hpos
          · have hmi : m = i + 1 := by omega
            rcases Nat.le_total b.length a.length with hab | hab
            · have hlen : a.length = i + 1 := by omega
              have := ha.tr (by omega)
              have e1 : a.length - 1 = i := by omega
              simp only [e1] at this
              rw [← getD_at (by omega), hx] at this
              exact this hx0
            · have hlen : b.length = i + 1 := by omega
              have := hb.tr (by omega)
              have e1 : b.length - 1 = i := by omega
              simp only [e1] at this
              rw [← getD_at (by omega), hy] at this
              exact this hy0
          · omega
      · right
        have hc0 : c = 0 := by omega
        subst hc0
        refine ⟨out, ?_, ⟨hd, ht (by omega) rfl, ?_⟩, by omega⟩
        · unfold ref17_Add_l1
          simp only
          rw [if_neg (by simp only [Bool.or_eq_true, decide_eq_true_eq]; omega)]
        · rw [List.take_of_length_le (by omega), List.take_of_length_le (by omega), ha.vl, hb.vl] at hv
          simpa using hv) (m + 1) ([], 0, 0) ⟨0, rfl, rfl, by omega, rfl, by simp [Dg], by simp, by simp, by simp [val], fun _ => rfl, fun _ _ => fun h => by simp at h⟩
  refine ⟨t, hd, by omega, ?_⟩
  unfold ref17_Add
  rw [rvalid17_true ha, rvalid17_true hb]
  simp only [Option.bind, Bool.not_true, Bool.false_eq_true, if_false]
  rw [e]
  simp only
  rw [rlimited_eq]
theorem rtimes_spec {f g : Fraction} {p q r s : Int} (hp : NW f.Num p) (hq : NW f.Den q) (hr : NW g.Num r) (hs : NW g.Den s) (q0 : 0 < q) (s0 : 0 < s) :
    ∃ x y, NV x (p * r) ∧ NV y (q * s) ∧ x.length ≤ f.Num.length + g.Num.length ∧ y.length ≤ f.Den.length + g.Den.length ∧ ref17_Times f g = some (if x.length ≤ 64 ∧ y.length ≤ 64 then (⟨x, y⟩, 0) else (⟨[], []⟩, 8)) := by
  obtain ⟨x, hx, lx, ex⟩ := rmul17_spec hp hr
  obtain ⟨y, hy, ly, ey⟩ := rmul17_spec hq hs
  refine ⟨x, y, hx, hy, lx, ly, ?_⟩
  unfold ref17_Times
  rw [rvf_true hp hq q0, rvf_true hr hs s0, ex, ey]
  simp only [Option.bind, Bool.not_true, Bool.false_eq_true, if_false]
  by_cases h1 : x.length ≤ 64
  · by_cases h2 : y.length ≤ 64
    · simp [h1, h2]
    · simp [h1, h2]
  · simp [h1]
theorem rsquare_spec {n : Int} (h0 : -4611686018427387904 ≤ n) (h1 : n ≤ 4611686018427387904) : ∃ l, ref18_square n = some l ∧ NW l (n * n) ∧ l.length ≤ 6 := by
  unfold ref18_square
  rw [w64_id (x := 0 - n) (by omega) (by omega)]
  obtain ⟨l, e, hl, ll⟩ := rfrom_spec (n := max n (0 - n)) (by omega) (by omega)
  rw [e]
  simp only [Option.bind]
  obtain ⟨r, hr, lr, er⟩ := rmul17_spec (⟨hl, by omega⟩ : NW l _) (⟨hl, by omega⟩ : NW l _)
  rw [er, if_pos (by omega)]
  have hv : max n (0 - n) * max n (0 - n) = n * n := by
    rcases Int.le_total 0 n with h | h
    · rw [show max n (0 - n) = n by omega]
    · rw [show max n (0 - n) = -n by omega, Int.neg_mul_neg]
  rw [hv] at hr
  exact ⟨r, rfl, ⟨hr, by omega⟩, by omega⟩

theorem rmagnitude_spec {a : Arr3 Int} {n d : Int} (e0 : -1048576 ≤ a.e0 ∧ a.e0 ≤ 1048576) (e1 : -1048576 ≤ a.e1 ∧ a.e1 ≤ 1048576) (e2 : -1048576 ≤ a.e2 ∧ a.e2 ≤ 1048576) (n0 : 0 ≤ n) (n1 : n ≤ 65536) (d0 : 0 ≤ d) (d1 : d ≤ 65536) :
    ∃ l, ref18_magnitude a n d = some l ∧ NW l (sqv a n d) ∧ l.length ≤ 7 := by
  have m1 := mul_bd e0.1 e0.2 d0 d1
  have m2 := mul_bd m1.1 m1.2 d0 d1
  have m3 := mul_bd e2.1 e2.2 n0 n1
  have m4 := mul_bd m3.1 m3.2 n0 n1
  have m5 := mul_bd e1.1 e1.2 n0 n1
  have m6 := mul_bd m5.1 m5.2 d0 d1
  unfold ref18_magnitude
  rw [w64_id (x := a.e0 * d) (by omega) (by omega), w64_id (x := a.e0 * d * d) (by omega) (by omega), w64_id (x := a.e2 * n) (by omega) (by omega), w64_id (x := a.e2 * n * n) (by omega) (by omega),
    w64_id (x := a.e1 * n) (by omega) (by omega), w64_id (x := a.e1 * n * d) (by omega) (by omega), w64_id (x := a.e0 * d * d - a.e2 * n * n) (by omega) (by omega)]
  obtain ⟨x, ex, hx, lx⟩ := rsquare_spec (n := a.e0 * d * d - a.e2 * n * n) (by omega) (by omega)
  obtain ⟨y, ey, hy, ly⟩ := rsquare_spec (n := a.e1 * n * d) (by omega) (by omega)
  rw [ex]
  simp only [Option.bind]
  rw [ey]
  simp only
  obtain ⟨r, hr, lr, er⟩ := radd17_spec hx hy
  rw [er, if_pos (by omega)]
  exact ⟨r, rfl, ⟨hr, by omega⟩, by omega⟩

theorem rgain_spec {s : Stage} (h : SG s) {n d : Int} (n0 : 0 ≤ n) (n1 : n ≤ 65536) (d0 : 0 ≤ d) (d1 : d ≤ 65536) :
    ∃ p q, ref18_gain s n d = some ⟨p, q⟩ ∧ NW p (gnum s n d) ∧ NW q (gden s n d) ∧ p.length ≤ 7 ∧ q.length ≤ 7 := by
  unfold ref18_gain
  rcases h with h | h | h
  · rw [if_pos (by rw [h.k]; rfl)]
    obtain ⟨x, ex, hx, lx⟩ := rsquare_spec (n := s.Num.e0) (by have := h.n0; omega) (by have := h.n1; omega)
    obtain ⟨y, ey, hy, ly⟩ := rsquare_spec (n := s.Den.e0) (by have := h.d0; omega) (by have := h.d1; omega)
    rw [ex, ey]
    refine ⟨x, y, rfl, ?_, ?_, by omega, by omega⟩
    · unfold gnum; rw [if_pos h.k]; exact hx
    · unfold gden; rw [if_pos h.k]; exact hy
  · have hk : ¬ s.Kind = 0 := by rw [h.k]; decide
    rw [if_neg (by rw [h.k]; decide), if_pos (by rw [h.k]; rfl)]
    obtain ⟨x, ex, hx, lx⟩ := rmagnitude_spec h.a0 h.a1 h.a2 n0 n1 d0 d1
    obtain ⟨y, ey, hy, ly⟩ := rmagnitude_spec h.b0 h.b1 h.b2 n0 n1 d0 d1
    rw [ex, ey]
    refine ⟨x, y, rfl, ?_, ?_, lx, ly⟩
    · unfold gnum; rw [if_neg hk, if_pos h.k]; exact hx
    · unfold gden; rw [if_neg hk, if_pos h.k]; exact hy
  · have hk : ¬ s.Kind = 0 := by rw [h.k]; decide
    have hk1 : ¬ s.Kind = 1 := by rw [h.k]; decide
    have hb := isum_bd h.tap
    have hl := h.l1
    have hp := pow40 h.s1
    rw [if_neg (by rw [h.k]; decide), if_neg (by rw [h.k]; decide), total_eq, rsum_spec (by omega) h.tap]
    obtain ⟨x, ex, hx, lx⟩ := rsquare_spec (n := isum s.Taps) (by omega) (by omega)
    obtain ⟨y, ey, hy, ly⟩ := rsquare_spec (n := 2 ^ s.Shift.toNat) (by omega) (by omega)
    simp only [Option.bind]
    rw [ex, u64_id h.s0 (by have := h.s1; omega), shlM_at _ _ h.s0 (by have := h.s1; omega), Int.one_mul, w64_id (by omega) (by omega)]
    simp only
    rw [ey]
    refine ⟨x, y, rfl, ?_, ?_, by omega, by omega⟩
    · unfold gnum; rw [if_neg hk, if_neg hk1]; exact hx
    · unfold gden; rw [if_neg hk, if_neg hk1]; exact hy

theorem rGain_spec {l : List Stage} (h : ∀ s ∈ l, SG s) (h8 : l.length ≤ 8) (h6 : fac l ≤ 64) {n d : Int} (n0 : 0 ≤ n) (n1 : n ≤ 65536) (d0 : 1 ≤ d) (d1 : d ≤ 65536) :
    ((∀ s ∈ l, 0 < gden s n d) ∧ ∃ p q, ref18_Gain ⟨l⟩ n d = some (⟨p, q⟩, 0) ∧ NW p (gN n d l) ∧ NW q (gD n d l) ∧ 0 < gD n d l) ∨
    ((∃ s ∈ l, ¬ 0 < gden s n d) ∧ ref18_Gain ⟨l⟩ n d = some (⟨[], []⟩, 11)) := by
  obtain ⟨r, e, hr⟩ := loop_ex (b1 := ref18_Gain_l2 ⟨l⟩ n d)
    (fun q s => ∃ i : Nat, s.2.2 = (i : Int) ∧ q + i = l.length ∧ NW s.1 (gN n d (l.take i)) ∧ NW s.2.1 (gD n d (l.take i)) ∧ s.1.length ≤ 7 * i + 1 ∧ s.2.1.length ≤ 7 * i + 1 ∧ 0 < gD n d (l.take i) ∧ ∀ s ∈ l.take i, 0 < gden s n d)
    (fun r => ((∀ s ∈ l, 0 < gden s n d) ∧ ∃ p q, r = (⟨p, q⟩, 0) ∧ NW p (gN n d l) ∧ NW q (gD n d l) ∧ 0 < gD n d l) ∨ ((∃ s ∈ l, ¬ 0 < gden s n d) ∧ r = (⟨[], []⟩, 11)))
    (fun k s ⟨i, hi, hk, hp, hq, lp, lq, hpos, hall⟩ => by
      obtain ⟨p, q, i'⟩ := s
      simp only at hi hp hq lp lq
      subst hi
      by_cases hil : i < l.length
      · have hs := h _ (List.getElem_mem hil)
        obtain ⟨x, y, eg, hx, hy, lx, ly⟩ := rgain_spec hs n0 n1 (by omega : 0 ≤ d) d1
        have tN : gN n d (l.take (i + 1)) = gN n d (l.take i) * gnum l[i] n d := by rw [take_one hil, gN_append]; simp [gN]
        have tD : gD n d (l.take (i + 1)) = gD n d (l.take i) * gden l[i] n d := by rw [take_one hil, gD_append]; simp [gD]
        by_cases hg : 0 < gden l[i] n d
        · left
          obtain ⟨u, v, hu, hv, lu, lv, et⟩ := rtimes_spec (f := ⟨p, q⟩) (g := ⟨x, y⟩) hp hq hx hy hpos hg
          simp only at lu lv
          rw [if_pos ⟨by omega, by omega⟩] at et
          refine ⟨(u, v, ((i + 1 : Nat) : Int)), k - 1, ?_, ⟨i + 1, rfl, by omega, ⟨by rw [tN]; exact hu, by simp only; omega⟩, ⟨by rw [tD]; exact hv, by simp only; omega⟩, by simp only; omega, by simp only; omega, by rw [tD]; exact Int.mul_pos hpos hg, ?_⟩, by omega⟩
          · unfold ref18_Gain_l2
            simp only
            rw [if_pos (decide_eq_true (by omega)), ix_nat _ _ hil]
            simp only [Option.bind]
            rw [eg]
            have hyp := hy.toNV.pos.2 hg
            simp only
            rw [if_neg (by simp; intro h; rw [h] at hyp; simp at hyp), et]
            simp only
            rw [w64_id (by omega) (by omega)]; rfl
          · intro s hs'
            rw [take_one hil] at hs'
            rcases List.mem_append.1 hs' with h' | h'
            · exact hall s h'
            · rcases List.mem_singleton.1 h' with rfl; exact hg
        · right
          refine ⟨(⟨[], []⟩, 11), ?_, .inr ⟨⟨l[i], List.getElem_mem hil, hg⟩, rfl⟩⟩
          unfold ref18_Gain_l2
          simp only
          rw [if_pos (decide_eq_true (by omega)), ix_nat _ _ hil]
          simp only [Option.bind]
          have hyp := hy.toNV.pos
          rw [eg]
          simp only
          rw [if_pos (by simp; exact List.eq_nil_of_length_eq_zero (by omega))]
      · right
        have ht : l.take i = l := List.take_of_length_le (by omega)
        rw [ht] at hp hq hpos hall
        refine ⟨(⟨p, q⟩, 0), ?_, .inl ⟨hall, p, q, rfl, hp, hq, hpos⟩⟩
        unfold ref18_Gain_l2
        simp only
        rw [if_neg (by simp; omega)]; rfl) l.length ([1], [1], 0) ⟨0, rfl, rfl, one_nw, one_nw, by simp, by simp, by simp [gD], by simp⟩
  have hG : ref18_Gain ⟨l⟩ n d = some r := by
    obtain ⟨b, e1, e2⟩ := rvalid (l := l) (by omega) (fun s hs => by have := (h s hs).taps; omega)
    unfold ref18_Gain
    rw [e1, e2.2 ⟨h, h8, h6⟩, ref_in_eq, ref_in_eq, inB_true n0 n1, inB_true d0 d1]
    exact e
  rw [hG]
  rcases hr with ⟨ha, p, q, rfl, h1, h2, h3⟩ | ⟨ha, rfl⟩
  · exact .inl ⟨ha, p, q, rfl, h1, h2, h3⟩
  · exact .inr ⟨ha, rfl⟩

/-- the gains of both sides -/
theorem rsame17 (a : List Int) (ha : a.length ≤ 1000) : ref17_Same a a = some true := by
  unfold ref17_Same
  rw [if_neg (by simp)]
  refine whileM_for' (fun i => (i : Int)) a.length _ rfl (fun i hi => ?_) ?_
  · unfold ref17_Same_l2
    rw [if_pos (decide_eq_true (by omega)), ix_nat _ _ hi]
    simp only [Option.bind]
    rw [if_neg (by simp), w64_id (by omega) (by omega)]; rfl
  · unfold ref17_Same_l2
    rw [if_neg (by simp)]; rfl
theorem both_gain {l : List Stage} (hl : l.length ≤ 1000) (ht : ∀ s ∈ l, s.Taps.length ≤ 1000) (n d : Int) : ∃ f e, response_Gain ⟨l⟩ n d = some (f, e) ∧ ref18_Gain ⟨l⟩ n d = some (f, e) ∧ ref17_SameFraction f f = some true := by
  obtain ⟨b, h1, h2, h3⟩ := vresp hl ht
  have hnil : ref17_SameFraction (⟨[], []⟩ : Fraction) ⟨[], []⟩ = some true := by
    unfold ref17_SameFraction
    simp only
    rw [rsame17 [] (by simp)]; rfl
  have hc : ∀ p q v w, NW p v → NW q w → ref17_SameFraction (⟨p, q⟩ : Fraction) ⟨p, q⟩ = some true := fun p q v w hp hq => by
    have := hp.len; have := hq.len
    unfold ref17_SameFraction
    simp only
    rw [rsame17 p (by omega), rsame17 q (by omega)]; rfl
  cases b with
  | false =>
    refine ⟨⟨[], []⟩, 1, ?_, ?_, hnil⟩
    · unfold response_Gain; rw [h1]; rfl
    · unfold ref18_Gain; rw [h2]; rfl
  | true =>
    obtain ⟨hs, h8, h6⟩ := h3.1 rfl
    by_cases hr : (0 ≤ n ∧ n ≤ 65536) ∧ (1 ≤ d ∧ d ≤ 65536)
    · rcases Gain_spec hs h8 h6 hr.1.1 hr.1.2 hr.2.1 hr.2.2 with ⟨ha, p, q, e1, hp, hq, h0⟩ | ⟨ha, e1⟩
      · rcases rGain_spec hs h8 h6 hr.1.1 hr.1.2 hr.2.1 hr.2.2 with ⟨hb, p', q', e2, hp', hq', _⟩ | ⟨⟨s, hm, hn⟩, _⟩
        · have ep := hp.toNV.inj hp'.toNV
          have eq := hq.toNV.inj hq'.toNV
          subst ep; subst eq
          exact ⟨_, _, e1, e2, hc _ _ _ _ hp hq⟩
        · exact absurd (ha s hm) hn
      · rcases rGain_spec hs h8 h6 hr.1.1 hr.1.2 hr.2.1 hr.2.2 with ⟨hb, _⟩ | ⟨_, e2⟩
        · obtain ⟨s, hm, hn⟩ := ha
          exact absurd (hb s hm) hn
        · exact ⟨_, _, e1, e2, hnil⟩
    · refine ⟨⟨[], []⟩, 2, ?_, ?_, hnil⟩
      · unfold response_Gain
        rw [h1, rsp_in_eq, rsp_in_eq]
        simp only [Option.bind, Bool.not_true, Bool.false_eq_true, if_false]
        by_cases hn : inB n 0 65536 = true
        · have hd : inB d 1 65536 = false := by
            cases hh : inB d 1 65536 with
            | false => rfl
            | true => exact absurd ⟨inB_iff.1 hn, inB_iff.1 hh⟩ hr
          rw [hn, hd]; rfl
        · simp only [Bool.not_eq_true] at hn
          rw [hn]; rfl
      · unfold ref18_Gain
        rw [h2, ref_in_eq, ref_in_eq]
        simp only [Option.bind, Bool.not_true, Bool.false_eq_true, if_false]
        by_cases hn : inB n 0 65536 = true
        · have hd : inB d 1 65536 = false := by
            cases hh : inB d 1 65536 with
            | false => rfl
            | true => exact absurd ⟨inB_iff.1 hn, inB_iff.1 hh⟩ hr
          rw [hn, hd]; rfl
        · simp only [Bool.not_eq_true] at hn
          rw [hn]; rfl

end Go.Proofs.Ytoendkojgjobbaa.Sh

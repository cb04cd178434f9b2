/- The law FilterLate as a plain program: it is true at every input. -/
import Derived.Test.YtmihimhknllmcaaFlt2
import Derived.Test.YtmihimhknllmcaaRec
import Derived.Test.YtmihimhknllmcaaFilterStreamLaw
namespace Go.Proofs.Ytmihimhknllmcaa.Sh
open Go
set_option linter.unusedVariables false
set_option linter.unusedSimpArgs false

theorem wave_j2 {sv : List Int × Int × List Int × Int × Int} {L : List Int} {At loud x : Int} (hl : sv.2.2.1.length ≤ 1000) (hi0 : 0 < sv.2.2.2.2) (hi1 : sv.2.2.2.2 ≤ 1001) :
    made_Dice_Wave_j2 sv L At loud x = some (.inl (L, At, sv.2.2.1 ++ [x], loud, sv.2.2.2.2 - 1)) := by
  unfold made_Dice_Wave_j2
  rw [appM_one _ _ _ (by simp; omega) (by decide)]
  simp only [Option.bind]
  rw [w64_id (by omega) (by omega)]

structure WI (n : Int) (s : List Int × Int × List Int × Int × Int) : Prop where
  dok : DOK ⟨s.1, s.2.1⟩
  rng : ∀ x ∈ s.2.2.1, -100 ≤ x ∧ x ≤ 100
  x0 : 0 ≤ s.2.2.2.1
  x1 : s.2.2.2.1 ≤ 6
  i0 : 0 ≤ s.2.2.2.2
  i1 : s.2.2.2.2 + s.2.2.1.length ≤ n
  ne : s.2.2.2.2 = 0 → 1 ≤ s.2.2.1.length

theorem wave_spec {d : Dice} (hd : DOK d) {n : Int} (h1 : 1 ≤ n) (h2 : n ≤ 1000) : ∃ xs d', made_Dice_Wave d n = some (xs, d') ∧ (∀ x ∈ xs, -100 ≤ x ∧ x ≤ 100) ∧ 1 ≤ xs.length ∧ xs.length ≤ n ∧ DOK d' := by
  unfold made_Dice_Wave
  obtain ⟨m, d2, e2, hm0, hm1, hd2⟩ := next_spec hd (n := n) h1 (by omega)
  rw [e2]; simp only [Option.bind]
  rw [w64_id (x := 1 + m) (by omega) (by omega)]
  have hw := whileM_inv (body := made_Dice_Wave_l1) (WI n) (fun s => s.2.2.2.2.toNat)
    (fun e => DOK ⟨e.1, e.2.1⟩ ∧ (∀ x ∈ e.2.2, -100 ≤ x ∧ x ≤ 100) ∧ 1 ≤ e.2.2.length ∧ (e.2.2.length : Int) ≤ n) (by
      intro s hs
      obtain ⟨dok, rng, x0, x1, i0, i1, ne⟩ := hs
      by_cases hi : 0 < s.2.2.2.2
      · left
        -- what is put at the end
        have fin : ∀ (d : Dice) (x loud : Int), DOK d → -100 ≤ x → x ≤ 100 → 0 ≤ loud → loud ≤ 6 →
            ∃ s', made_Dice_Wave_j2 s d.L d.At loud x = some (.inl s') ∧ WI n s' ∧ s'.2.2.2.2.toNat < s.2.2.2.2.toNat := by
          intro d x loud hd q0 q1 l0 l1
          refine ⟨_, wave_j2 (by omega) hi (by omega), ⟨hd, ?_, by simp only; omega, by simp only; omega, by simp only; omega, by simp; omega, fun _ => by simp⟩, by simp only; omega⟩
          intro y hy
          simp only [List.mem_append, List.mem_singleton] at hy
          rcases hy with hy | hy
          · exact rng y hy
          · omega
        have mid : ∀ (d : Dice) (loud : Int), DOK d → 0 ≤ loud → loud ≤ 6 → ∃ s', made_Dice_Wave_j1 s d.L d.At loud = some (.inl s') ∧ WI n s' ∧ s'.2.2.2.2.toNat < s.2.2.2.2.toNat := by
          intro d loud hd l0 l1
          obtain ⟨a, da, ea, a0, a1, hda⟩ := next_spec hd (n := 5) (by decide) (by decide)
          unfold made_Dice_Wave_j1
          have ea' : made_Dice_Next ⟨d.L, d.At⟩ 5 = some (a, da) := ea
          rw [ea']
          simp only [Option.bind]
          rw [w64_id (x := a - 2) (by omega) (by omega)]
          by_cases hlo : 0 < loud
          · obtain ⟨b, db, eb, b0, b1, hdb⟩ := next_spec hda (n := 60) (by decide) (by decide)
            obtain ⟨c, dc, ec, c0, c1, hdc⟩ := next_spec hdb (n := 2) (by decide) (by decide)
            rw [if_pos (decide_eq_true hlo), eb]
            simp only
            rw [ec]
            simp only
            have hc : c = 0 ∨ c = 1 := by omega
            rw [w64_id (x := 2 * c) (by omega) (by omega), w64_id (x := 1 - 2 * c) (by omega) (by omega), w64_id (x := b + 20) (by omega) (by omega), w64_id (x := loud - 1) (by omega) (by omega)]
            have hm : -79 ≤ (b + 20) * (1 - 2 * c) ∧ (b + 20) * (1 - 2 * c) ≤ 79 := by rcases hc with rfl | rfl <;> omega
            rw [w64_id (x := (b + 20) * (1 - 2 * c)) (by omega) (by omega)]
            exact fin dc _ _ hdc (by omega) (by omega) (by omega) (by omega)
          · rw [if_neg (by simpa using hlo)]
            exact fin da _ _ hda (by omega) (by omega) l0 l1
        unfold made_Dice_Wave_l1
        rw [if_pos (decide_eq_true hi)]
        by_cases c0 : s.2.2.2.1 = 0
        · obtain ⟨a, da, ea, a0, a1, hda⟩ := next_spec dok (n := 7) (by decide) (by decide)
          rw [if_pos (by simp [c0]), ea]
          simp only [Option.bind]
          by_cases ha : a = 0
          · obtain ⟨b, db, eb, b0, b1, hdb⟩ := next_spec hda (n := 6) (by decide) (by decide)
            have eb' : made_Dice_Next ⟨da.L, da.At⟩ 6 = some (b, db) := eb
            rw [if_pos (by simp [ha]), eb']
            simp only
            rw [w64_id (x := 1 + b) (by omega) (by omega)]
            exact mid db _ hdb (by omega) (by omega)
          · rw [if_neg (by simp [ha])]
            exact mid da _ hda x0 x1
        · rw [if_neg (by simp [c0])]
          simp only [Option.bind, Bool.false_eq_true, if_false]
          exact mid ⟨s.1, s.2.1⟩ _ dok x0 x1
      · right
        unfold made_Dice_Wave_l1
        rw [if_neg (by simpa using hi)]
        exact ⟨_, rfl, dok, rng, ne (by omega), by simp only; omega⟩)
    (d2.L, d2.At, [], 0, 1 + m) ⟨hd2, by simp, by simp only; omega, by simp only; omega, by simp only; omega, by simp; omega, fun h => by simp only at h; omega⟩
  obtain ⟨e, he, hde, hr, hl1, hl2⟩ := hw
  rw [he]
  exact ⟨_, _, rfl, hr, hl1, hl2, hde⟩

/-- a rate of the law, a factor: the period, the slower rate -/
structure RC (num f P n' d' : Int) : Prop where
  p : P * num = 1000000
  p0 : 1 ≤ P
  p1 : P ≤ 1000000
  s : d' * 1000000 = f * P * n'
  r : RV ⟨num, 1⟩
  r' : RV ⟨n', d'⟩
  sl : rate_Slower ⟨num, 1⟩ f = some (⟨n', d'⟩, 0)
  nb : ∀ k : Int, 0 ≤ k → k ≤ 100 → rate_Number ⟨num, 1⟩ (1000000000000 + k * P) = some (1000000 * num + k, 0)

theorem slower_at {num f g n' f' : Int} (h : RV ⟨num, 1⟩) (f0 : 1 ≤ f) (f1 : f ≤ 64) (hg : (Int.gcd num f : Int) = g) (g0 : 1 ≤ g) (e1 : num / g = n') (e2 : f / g = f') (hf : 0 ≤ f') (hf' : f' ≤ 64) (h' : RV ⟨n', f'⟩) : rate_Slower ⟨num, 1⟩ f = some (⟨n', f'⟩, 0) := by
  have h0 := h.n0
  have h1 := h.n1
  simp only at h0 h1
  unfold rate_Slower
  rw [rate_Valid_eq, rateVB_iff.2 h]
  simp only [rate_in_eq, Option.bind, inB_true f0 f1, Bool.not_true, Bool.false_eq_true, if_false]
  rw [rate_gcd_eq _ _ (by omega) (by omega)]
  simp only [hg]
  rw [quo_nn (by omega) (by omega) (by omega), quo_nn (by omega) (by omega) (by omega), e1, e2]
  simp only
  rw [Int.one_mul, w64_id (by omega) (by omega), rate_Valid_eq, rateVB_iff.2 h']
  simp

theorem number_at {r : Rate} (h : RV r) {t : Int} (t0 : 0 ≤ t) (t1 : t ≤ 18014398509481984) :
    rate_Number r t = some (t / (r.Den * 1000000) * r.Num + (2 * (t % (r.Den * 1000000)) * r.Num + r.Den * 1000000) / (2 * (r.Den * 1000000)), 0) := by
  have n0 := h.n0
  have n1 := h.n1
  have d0 := h.d0
  have d1 := h.d1
  unfold rate_Number
  rw [rate_Valid_eq, rateVB_iff.2 h]
  simp only [rate_in_eq, Option.bind, inB_true t0 t1, Bool.not_true, Bool.false_eq_true, if_false]
  rw [rate_micros_eq h]
  obtain ⟨p, hp⟩ : ∃ p, r.Den * 1000000 = p := ⟨_, rfl⟩
  have p0 : 1000000 ≤ p := by omega
  have p1 : p ≤ 4096000000 := by omega
  rw [hp]
  simp only
  have q0 := Int.ediv_nonneg t0 (by omega : 0 ≤ p)
  have q1 : t / p ≤ 18014398509 := by
    have : t / p < 18014398510 := by
      rw [Int.ediv_lt_iff_lt_mul (by omega)]
      have : 18014398510 * 1000000 ≤ 18014398510 * p := Int.mul_le_mul_of_nonneg_left p0 (by omega)
      omega
    omega
  have m0 := Int.emod_nonneg t (show p ≠ 0 by omega)
  have m1 := Int.emod_lt_of_pos t (show 0 < p by omega)
  rw [quo_nn (by omega) t0 (by omega)]
  simp only
  rw [rem_nn (by omega) t0]
  simp only
  have a1 : t / p * r.Num ≤ 18014398509 * 4096 := Int.mul_le_mul q1 n1 (by omega) (by omega)
  have a0 : 0 ≤ t / p * r.Num := Int.mul_nonneg q0 (by omega)
  have b1 : 2 * (t % p) * r.Num ≤ 8192000000 * 4096 := Int.mul_le_mul (by omega) n1 (by omega) (by omega)
  have b0 : 0 ≤ 2 * (t % p) * r.Num := Int.mul_nonneg (by omega) (by omega)
  rw [w64_id (x := 2 * (t % p)) (by omega) (by omega), w64_id (x := 2 * (t % p) * r.Num) (by omega) (by omega), w64_id (x := 2 * (t % p) * r.Num + p) (by omega) (by omega), w64_id (x := 2 * p) (by omega) (by omega), quo_nn (by omega) (by omega) (by omega)]
  simp only
  have c0 := Int.ediv_nonneg (show 0 ≤ 2 * (t % p) * r.Num + p by omega) (by omega : 0 ≤ 2 * p)
  have c1 := Int.ediv_le_self (2 * p) (show 0 ≤ 2 * (t % p) * r.Num + p by omega)
  rw [w64_id (x := t / p * r.Num) (by omega) (by omega), w64_id (by omega) (by omega)]

theorem rv_dec {r : Rate} (h : rateVB r = true) : RV r := rateVB_iff.1 h
theorem rc_ex {num f : Int} (hn : num ∈ [(1 : Int), 2, 4, 20]) (f0 : 1 ≤ f) (f3 : f ≤ 3) : ∃ P n' d', RC num f P n' d' := by
  have hf : f = 1 ∨ f = 2 ∨ f = 3 := by omega
  simp only [List.mem_cons, List.not_mem_nil, or_false] at hn
  have nb : ∀ (num P : Int), RV ⟨num, 1⟩ → (num = 1 ∧ P = 1000000) ∨ (num = 2 ∧ P = 500000) ∨ (num = 4 ∧ P = 250000) ∨ (num = 20 ∧ P = 50000) → ∀ k : Int, 0 ≤ k → k ≤ 100 → rate_Number ⟨num, 1⟩ (1000000000000 + k * P) = some (1000000 * num + k, 0) := by
    intro num P hr h k k0 k1
    rw [number_at hr (by rcases h with h | h | h | h <;> (rw [h.2]; omega)) (by rcases h with h | h | h | h <;> (rw [h.2]; omega))]
    simp only [Option.some.injEq, Prod.mk.injEq, and_true]
    rcases h with ⟨rfl, rfl⟩ | ⟨rfl, rfl⟩ | ⟨rfl, rfl⟩ | ⟨rfl, rfl⟩ <;> omega
  rcases hn with rfl | rfl | rfl | rfl <;> rcases hf with rfl | rfl | rfl
  · exact ⟨1000000, 1, 1, by decide, by decide, by decide, by decide, rv_dec (by decide), rv_dec (by decide), slower_at (rv_dec (by decide)) (by decide) (by decide) (g := 1) (by decide) (by decide) (by decide) (by decide) (by decide) (by decide) (rv_dec (by decide)), nb _ _ (rv_dec (by decide)) (by decide)⟩
  · exact ⟨1000000, 1, 2, by decide, by decide, by decide, by decide, rv_dec (by decide), rv_dec (by decide), slower_at (rv_dec (by decide)) (by decide) (by decide) (g := 1) (by decide) (by decide) (by decide) (by decide) (by decide) (by decide) (rv_dec (by decide)), nb _ _ (rv_dec (by decide)) (by decide)⟩
  · exact ⟨1000000, 1, 3, by decide, by decide, by decide, by decide, rv_dec (by decide), rv_dec (by decide), slower_at (rv_dec (by decide)) (by decide) (by decide) (g := 1) (by decide) (by decide) (by decide) (by decide) (by decide) (by decide) (rv_dec (by decide)), nb _ _ (rv_dec (by decide)) (by decide)⟩
  · exact ⟨500000, 2, 1, by decide, by decide, by decide, by decide, rv_dec (by decide), rv_dec (by decide), slower_at (rv_dec (by decide)) (by decide) (by decide) (g := 1) (by decide) (by decide) (by decide) (by decide) (by decide) (by decide) (rv_dec (by decide)), nb _ _ (rv_dec (by decide)) (by decide)⟩
  · exact ⟨500000, 1, 1, by decide, by decide, by decide, by decide, rv_dec (by decide), rv_dec (by decide), slower_at (rv_dec (by decide)) (by decide) (by decide) (g := 2) (by decide) (by decide) (by decide) (by decide) (by decide) (by decide) (rv_dec (by decide)), nb _ _ (rv_dec (by decide)) (by decide)⟩
  · exact ⟨500000, 2, 3, by decide, by decide, by decide, by decide, rv_dec (by decide), rv_dec (by decide), slower_at (rv_dec (by decide)) (by decide) (by decide) (g := 1) (by decide) (by decide) (by decide) (by decide) (by decide) (by decide) (rv_dec (by decide)), nb _ _ (rv_dec (by decide)) (by decide)⟩
  · exact ⟨250000, 4, 1, by decide, by decide, by decide, by decide, rv_dec (by decide), rv_dec (by decide), slower_at (rv_dec (by decide)) (by decide) (by decide) (g := 1) (by decide) (by decide) (by decide) (by decide) (by decide) (by decide) (rv_dec (by decide)), nb _ _ (rv_dec (by decide)) (by decide)⟩
  · exact ⟨250000, 2, 1, by decide, by decide, by decide, by decide, rv_dec (by decide), rv_dec (by decide), slower_at (rv_dec (by decide)) (by decide) (by decide) (g := 2) (by decide) (by decide) (by decide) (by decide) (by decide) (by decide) (rv_dec (by decide)), nb _ _ (rv_dec (by decide)) (by decide)⟩
  · exact ⟨250000, 4, 3, by decide, by decide, by decide, by decide, rv_dec (by decide), rv_dec (by decide), slower_at (rv_dec (by decide)) (by decide) (by decide) (g := 1) (by decide) (by decide) (by decide) (by decide) (by decide) (by decide) (rv_dec (by decide)), nb _ _ (rv_dec (by decide)) (by decide)⟩
  · exact ⟨50000, 20, 1, by decide, by decide, by decide, by decide, rv_dec (by decide), rv_dec (by decide), slower_at (rv_dec (by decide)) (by decide) (by decide) (g := 1) (by decide) (by decide) (by decide) (by decide) (by decide) (by decide) (rv_dec (by decide)), nb _ _ (rv_dec (by decide)) (by decide)⟩
  · exact ⟨50000, 10, 1, by decide, by decide, by decide, by decide, rv_dec (by decide), rv_dec (by decide), slower_at (rv_dec (by decide)) (by decide) (by decide) (g := 2) (by decide) (by decide) (by decide) (by decide) (by decide) (by decide) (rv_dec (by decide)), nb _ _ (rv_dec (by decide)) (by decide)⟩
  · exact ⟨50000, 20, 3, by decide, by decide, by decide, by decide, rv_dec (by decide), rv_dec (by decide), slower_at (rv_dec (by decide)) (by decide) (by decide) (g := 1) (by decide) (by decide) (by decide) (by decide) (by decide) (by decide) (rv_dec (by decide)), nb _ _ (rv_dec (by decide)) (by decide)⟩

theorem RC.time {num f P n' d' : Int} (h : RC num f P n' d') {k : Int} (k0 : 0 ≤ k) (k1 : k ≤ 16777216) : timeV 1000000000000 ⟨num, 1⟩ k = (1000000000000 + k * P, 0) := by
  rw [timeV_ok h.r (by decide) (by decide) k0 k1]
  have n0 := h.r.n0
  simp only at n0
  simp only [Prod.mk.injEq, and_true]
  rw [Int.one_mul, ← h.p, ← Int.mul_assoc, Int.mul_ediv_cancel _ (by omega)]
theorem RC.slow {num f P n' d' : Int} (h : RC num f P n' d') {s k : Int} (s0 : 0 ≤ s) (s1 : s ≤ 9007199254740992) (k0 : 0 ≤ k) (k1 : k ≤ 16777216) : timeV s ⟨n', d'⟩ k = (s + k * (f * P), 0) := by
  rw [timeV_ok h.r' s0 s1 k0 k1]
  have n0 := h.r'.n0
  simp only at n0
  simp only [Prod.mk.injEq, and_true]
  rw [h.s, ← Int.mul_assoc, Int.mul_ediv_cancel _ (by omega)]

theorem nsrc : SrcSm (⟨⟨#[78]⟩, ⟨#[83]⟩, ByteArray.empty, ⟨#[67, 72, 65]⟩⟩ : SourceID) := ⟨by decide, by decide, by decide, by decide⟩
theorem nseg_valid {num f P n' d' : Int} (h : RC num f P n' d') {k : Int} {xs : List Int} (k0 : 0 ≤ k) (k1 : k ≤ 40) (l0 : 1 ≤ xs.length) (l1 : xs.length ≤ 40) (hx : ∀ x ∈ xs, -100 ≤ x ∧ x ≤ 100) :
    continuity_ValidSegment ⟨1000000000000, k, ⟨num, 1⟩, 0, xs⟩ = some true := by
  unfold continuity_ValidSegment continuity_body
  simp only [Option.bind]
  rw [record_Valid_eq nsrc (by simp only; omega)]
  unfold recB
  have e0 : srcB (⟨⟨#[78]⟩, ⟨#[83]⟩, ByteArray.empty, ⟨#[67, 72, 65]⟩⟩ : SourceID) = true := by decide
  have p0 := h.p0
  have p1 := h.p1
  have hkp : (k + xs.length) * P ≤ 80 * 1000000 := Int.mul_le_mul (by omega) p1 (by omega) (by omega)
  rw [e0]
  simp only
  rw [h.time (by omega) (by omega), inB_true (by omega) (by omega), inB_true (by omega) (by omega)]
  simp only
  rw [decide_eq_true (show (1000000000000 : Int) + (k + xs.length) * P ≤ 9007199254740992 by omega), smpB_iff.2 (fun x hx' => by have := hx x hx'; omega)]
  rfl

/-- the first index from a on whose number is a multiple of the factor -/
def nxt (N F : Int) (a : Nat) : Int := a + (-(N + a)) % F
theorem seg_loop {f : Filter} {rv : Int × Int} {N : Int} (hr : rv.1 = N) (n0 : 0 ≤ N) (n1 : N ≤ 10000000000) (f0 : 1 ≤ f.Factor) (f3 : f.Factor ≤ 3) (a : Nat) (ha : a ≤ 1000) :
    whileM (filter_Segment_l1 f rv) (a : Int) = some (nxt N f.Factor a) := by
  subst hr
  obtain ⟨F, hF⟩ : ∃ F, f.Factor = F := ⟨_, rfl⟩
  have hFc : F = 1 ∨ F = 2 ∨ F = 3 := by omega
  rw [hF]
  have hb : 0 ≤ (-(rv.1 + a)) % F ∧ (-(rv.1 + a)) % F < F := ⟨Int.emod_nonneg _ (by omega), Int.emod_lt_of_pos _ (by omega)⟩
  refine whileM_for' (fun i => ((a + i : Nat) : Int)) ((-(rv.1 + a)) % F).toNat _ (by simp) (fun i hi => ?_) ?_
  · unfold filter_Segment_l1
    rw [w64_id (x := rv.1 + ((a + i : Nat) : Int)) (by omega) (by omega), hF, rem_nn (by omega) (by omega)]
    simp only [Option.bind]
    have hne : (rv.1 + ((a + i : Nat) : Int)) % F ≠ 0 := by
      rcases hFc with rfl | rfl | rfl <;> omega
    rw [if_pos (by simpa using hne), w64_id (by omega) (by omega)]
    rfl
  · unfold filter_Segment_l1
    rw [w64_id (x := rv.1 + _) (by omega) (by omega), hF, rem_nn (by omega) (by omega)]
    simp only [Option.bind]
    have he : (rv.1 + ((a + ((-(rv.1 + a)) % F).toNat : Nat) : Int)) % F = 0 := by
      rcases hFc with rfl | rfl | rfl <;> omega
    rw [he]
    simp only [bne_self_eq_false, Bool.false_eq_true, if_false]
    unfold nxt
    congr 2
    omega

theorem outs_count {f : Filter} (f0 : 1 ≤ f.Factor) (f3 : f.Factor ≤ 3) (xs : List Int) (N : Int) (a m : Nat) :
    nxt N f.Factor a + f.Factor * (outs f xs N a m).length = nxt N f.Factor (a + m) := by
  obtain ⟨F, hF⟩ : ∃ F, f.Factor = F := ⟨_, rfl⟩
  have hFc : F = 1 ∨ F = 2 ∨ F = 3 := by omega
  induction m with
  | zero => simp [outs]
  | succ m ih =>
    rw [outs, List.length_append]
    unfold nxt at *
    rw [hF] at *
    split <;> (rcases hFc with rfl | rfl | rfl <;> simp <;> omega)

theorem segment_at {num P n' d' : Int} {f : Filter} (hv : VF f) (h : RC num f.Factor P n' d') (l5 : f.Taps.length ≤ 5) (f3 : f.Factor ≤ 3) {k : Nat} {xs : List Int} (k1 : k ≤ 40) (l0 : 1 ≤ xs.length) (l1 : xs.length ≤ 40) (hx : ∀ x ∈ xs, -100 ≤ x ∧ x ≤ 100) :
    filter_Segment f ⟨1000000000000, k, ⟨num, 1⟩, 0, xs⟩ = some (
      if (outs f xs (1000000 * num + k) (f.Taps.length - 1) (xs.length - (f.Taps.length - 1))).length = 0 then (⟨0, 0, ⟨0, 0⟩, 0, []⟩, false, 0)
      else (⟨1000000000000 + (k + nxt (1000000 * num + k) f.Factor (f.Taps.length - 1)) * P, 0, ⟨n', d'⟩, 1, outs f xs (1000000 * num + k) (f.Taps.length - 1) (xs.length - (f.Taps.length - 1))⟩, true, 0)) := by
  have t1 := hv.l1
  have f0 := hv.f0
  have n0 := h.r.n0
  have n1 := h.r.n1
  simp only at n0 n1
  unfold filter_Segment
  rw [valid_true hv, nseg_valid h (by omega) (by omega) l0 l1 hx]
  simp only [Option.bind, Bool.not_true, Bool.false_eq_true, if_false]
  rw [h.sl]
  simp only [bne_self_eq_false, Bool.false_eq_true, if_false]
  rw [rate_Time_eq, h.time (by omega) (by omega)]
  simp only
  rw [h.nb _ (by omega) (by omega)]
  simp only
  rw [show (0 : Int) = ((0 : Nat) : Int) from rfl, outputs_spec hv ⟨fun x hx' => by have := hx x hx'; omega, by omega⟩ (by omega) (by omega) (by omega)]
  simp only [Nat.zero_max]
  by_cases hz : (outs f xs (1000000 * num + k) (f.Taps.length - 1) (xs.length - (f.Taps.length - 1))).length = 0
  · rw [if_pos (by simp [hz]), if_pos hz]
  · rw [if_neg (by simpa using hz), if_neg hz]
    rw [w64_id (x := (f.Taps.length : Int) - 1) (by omega) (by omega), show (f.Taps.length : Int) - 1 = ((f.Taps.length - 1 : Nat) : Int) by omega, seg_loop (N := 1000000 * num + k) rfl (by omega) (by omega) f0 f3 _ (by omega)]
    simp only
    have hb : ((f.Taps.length - 1 : Nat) : Int) ≤ nxt (1000000 * num + k) f.Factor (f.Taps.length - 1) ∧ nxt (1000000 * num + k) f.Factor (f.Taps.length - 1) < ((f.Taps.length - 1 : Nat) : Int) + f.Factor := by
      unfold nxt
      have q0 := Int.emod_nonneg (-(1000000 * num + k + ((f.Taps.length - 1 : Nat) : Int))) (show f.Factor ≠ 0 by omega)
      have q1 := Int.emod_lt_of_pos (-(1000000 * num + k + ((f.Taps.length - 1 : Nat) : Int))) (show 0 < f.Factor by omega)
      omega
    rw [w64_id (x := (k : Int) + _) (by omega) (by omega), rate_Time_eq, h.time (by omega) (by omega)]
    simp only
    have : w64 (((0 : Nat) : Int) + 1) = 1 := by decide
    rw [this]
    rfl

theorem law21_FilterLate_true (t : List Int) (n : Int) (ht : ∀ x ∈ t, -9223372036854775808 ≤ x ∧ x ≤ 9223372036854775807) (hn : 0 ≤ n ∧ n ≤ 255) : law21_FilterLate t n = some true := by
  unfold law21_FilterLate
  rw [light_spec]
  simp only [Option.bind]
  by_cases hl : t.length ≤ 500
  case neg =>
    rw [decide_eq_false hl, sane_true]
    rfl
  rw [decide_eq_true hl]
  simp only [Bool.not_true, Bool.false_eq_true, if_false, made_Roll]
  obtain ⟨f, d1, ef, hff, hd1⟩ := dfilter_spec (DOK.roll hl)
  obtain ⟨num, d2, en, hnum, hd2⟩ := pick_spec hd1 (l := [1, 2, 4, 20]) (by decide) (by decide)
  obtain ⟨xs, d3, ex, rx, xl1, xl2, hd3⟩ := wave_spec hd2 (n := 40) (by decide) (by decide)
  rw [ef]; simp only
  rw [en]; simp only
  rw [ex]; simp only
  have hv : VF f := hff.toVF
  have t1 := hv.l1
  have l5 := hff.l5
  have f0 := hv.f0
  have f3 := hff.f3
  obtain ⟨P, n', d', hc⟩ := rc_ex hnum f0 f3
  rw [w64_id (x := n) (by omega) (by omega), rem_nn (by omega) hn.1]
  simp only
  obtain ⟨k, hk⟩ : ∃ k : Nat, n % (xs.length : Int) = k := ⟨_, (Int.toNat_of_nonneg (Int.emod_nonneg _ (by omega))).symm⟩
  have hk1 : (k : Int) < xs.length := by rw [← hk]; exact Int.emod_lt_of_pos _ (by omega)
  rw [hk]
  have esub : subM xs k (xs.length : Int) = some (xs.drop k) := by
    unfold subM
    rw [if_pos (by omega)]
    simp only [Int.toNat_natCast]
    rw [List.take_of_length_le (by omega)]
  rw [esub]
  simp only
  have hdl : (xs.drop k).length = xs.length - k := List.length_drop
  rw [show (⟨1000000000000, 0, ⟨num, 1⟩, 0, xs⟩ : Segment) = ⟨1000000000000, ((0 : Nat) : Int), ⟨num, 1⟩, 0, xs⟩ from rfl, segment_at hv hc l5 f3 (by omega) xl1 (by omega) rx]
  simp only
  rw [segment_at hv hc l5 f3 (by omega) (by omega) (by omega) (fun x hx => rx x (List.mem_of_mem_drop hx))]
  simp only
  have n0 := hc.r.n0
  have n1 := hc.r.n1
  simp only at n0 n1
  obtain ⟨N, hN⟩ : ∃ N, 1000000 * num = N := ⟨_, rfl⟩
  have e00 : N + ((0 : Nat) : Int) = N := by omega
  rw [hN, e00, hdl]
  obtain ⟨T, hT⟩ : ∃ T, f.Taps.length - 1 = T := ⟨_, rfl⟩
  rw [hT]
  have hlen := outs_count f0 f3 (xs.drop k) (N + k) T (xs.length - k - T)
  have hnx : ∀ (N : Int) (a : Nat), (a : Int) ≤ nxt N f.Factor a ∧ nxt N f.Factor a < a + f.Factor := by
    intro N a
    unfold nxt
    have q0 := Int.emod_nonneg (-(N + a)) (show f.Factor ≠ 0 by omega)
    have q1 := Int.emod_lt_of_pos (-(N + a)) (show 0 < f.Factor by omega)
    omega
  obtain ⟨B, hB⟩ : ∃ B, outs f (xs.drop k) (N + k) T (xs.length - k - T) = B := ⟨_, rfl⟩
  obtain ⟨A, hA⟩ : ∃ A, outs f xs N T (xs.length - T) = A := ⟨_, rfl⟩
  rw [hB] at hlen
  rw [hA, hB]
  by_cases hz : B.length = 0
  · -- no outputs: the part is short
    rw [if_pos hz]
    have h1 : ¬ ((if A.length = 0 then (⟨0, 0, ⟨0, 0⟩, 0, []⟩, false, 0) else (⟨1000000000000 + (((0 : Nat) : Int) + nxt N f.Factor T) * P, 0, ⟨n', d'⟩, 1, A⟩, true, 0) : Segment × Bool × Int).2.2 != 0) = true := by split <;> simp
    simp only [Bool.not_eq_true] at h1
    rw [h1]
    simp only [bne_self_eq_false, Bool.or_self, Bool.false_eq_true, if_false, Bool.not_false, if_true]
    rw [hz, show ((0 : Nat) : Int) = 0 from rfl, Int.mul_zero] at hlen
    have q1 := hnx (N + k) T
    have q2 := hnx (N + k) (T + (xs.length - k - T))
    rw [w64_id (by omega) (by omega), decide_eq_true (show ((xs.length - k : Nat) : Int) < (f.Taps.length : Int) + f.Factor by omega), sane_true]
    rfl
  · have hm : 0 < xs.length - k - T := by
      rcases Nat.eq_zero_or_pos (xs.length - k - T) with h0 | h0
      · exfalso; apply hz; rw [← hB, h0]; rfl
      · exact h0
    have hpart := outs_part f xs N T k xs.length (xs.length - k - T) (by omega) (by omega)
    rw [List.take_length, hB, show k + (xs.length - k - T) = xs.length - T by omega, hA] at hpart
    obtain ⟨C, hC⟩ : ∃ C, outs f xs N T k = C := ⟨_, rfl⟩
    rw [hC] at hpart
    have hcnt := outs_count f0 f3 xs N T k
    rw [hC] at hcnt
    have hAl : A.length = C.length + B.length := by rw [hpart, List.length_append]
    have hCl := outs_len f xs N T k
    rw [hC] at hCl
    have hBl := outs_len f (xs.drop k) (N + k) T (xs.length - k - T)
    rw [hB] at hBl
    rw [if_neg (show ¬ A.length = 0 by omega), if_neg hz]
    simp only [bne_self_eq_false, Bool.or_self, Bool.false_eq_true, if_false, Bool.not_true, beq_self_eq_true, Bool.and_self, Bool.false_or, Bool.or_false]
    rw [w64_id (by omega) (by omega), decide_eq_false (show ¬ ((A.length : Int) - B.length < 0) by omega)]
    simp only [Bool.false_eq_true, if_false]
    have eoff : (A.length : Int) - B.length = (C.length : Int) := by omega
    rw [eoff]
    have q1 := hnx N T
    have q2 := hnx (N + k) T
    have p0 := hc.p0
    have p1 := hc.p1
    -- where both begin
    have hst : nxt N f.Factor T + f.Factor * C.length = k + nxt (N + k) f.Factor T := by
      rw [hcnt]
      unfold nxt
      have : N + ((T + k : Nat) : Int) = N + k + T := by omega
      rw [this]; omega
    have bA : 0 ≤ (((0 : Nat) : Int) + nxt N f.Factor T) * P ∧ (((0 : Nat) : Int) + nxt N f.Factor T) * P ≤ 100 * 1000000 := ⟨Int.mul_nonneg (by omega) (by omega), Int.mul_le_mul (by omega) p1 (by omega) (by omega)⟩
    have bB : 0 ≤ ((k : Int) + nxt (N + k) f.Factor T) * P ∧ ((k : Int) + nxt (N + k) f.Factor T) * P ≤ 100 * 1000000 := ⟨Int.mul_nonneg (by omega) (by omega), Int.mul_le_mul (by omega) p1 (by omega) (by omega)⟩
    refine whileM_for' (fun i => (i : Int)) B.length _ rfl (fun i hi => ?_) ?_
    · unfold law21_FilterLate_l2
      simp only
      rw [if_pos (decide_eq_true (by omega)), w64_id (x := (C.length : Int) + i) (by omega) (by omega)]
      simp only [ref02_Time_eq, Option.bind]
      rw [hc.slow (by omega) (by omega) (by omega) (by omega), hc.slow (by omega) (by omega) (by omega) (by omega)]
      have e1 : ix A ((C.length : Int) + i) = some B[i] := by
        rw [show (C.length : Int) + (i : Int) = ((C.length + i : Nat) : Int) by omega, ix_nat _ _ (by omega)]
        congr 1
        subst hpart
        rw [List.getElem_append_right (by omega)]
        congr 1
        omega
      rw [e1, ix_nat _ _ hi]
      simp only
      have e2 : 1000000000000 + (((0 : Nat) : Int) + nxt N f.Factor T) * P + ((C.length : Int) + i) * (f.Factor * P) = 1000000000000 + ((k : Int) + nxt (N + k) f.Factor T) * P + i * (f.Factor * P) := by
        rw [← hst]
        have : (((0 : Nat) : Int) + nxt N f.Factor T) = nxt N f.Factor T := by omega
        rw [this, Int.add_mul (C.length : Int), Int.add_mul (nxt N f.Factor T), ← Int.mul_assoc (C.length : Int), Int.mul_comm (C.length : Int)]
        omega
      rw [e2]
      simp only [bne_self_eq_false, Bool.or_self, Bool.false_eq_true, if_false]
      rw [w64_id (by omega) (by omega)]
      rfl
    · unfold law21_FilterLate_l2
      simp only
      rw [if_neg (by simp), w64_id (x := (k : Int) + f.Taps.length) (by omega) (by omega), w64_id (x := (k : Int) + f.Taps.length - 1) (by omega) (by omega)]
      simp only [ref02_Time_eq, Option.bind]
      rw [hc.time (by omega) (by omega)]
      have : ((k : Int) + f.Taps.length - 1) * P ≤ ((k : Int) + nxt (N + k) f.Factor T) * P := Int.mul_le_mul_of_nonneg_right (by omega) (by omega)
      rw [decide_eq_true (by simp only; omega), sane_true]
      rfl

end Go.Proofs.Ytmihimhknllmcaa.Sh

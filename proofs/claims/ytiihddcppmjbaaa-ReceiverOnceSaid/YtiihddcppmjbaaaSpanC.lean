/- How many numbers a list of spans has, and its first ones (chapter 8). -/
import Derived.Test.YtiihddcppmjbaaaSpanO
namespace Go.Proofs.Ytiihddcppmjbaaa.Sh
open Go
set_option linter.unusedVariables false
set_option linter.unusedSimpArgs false

/-- how many numbers a list of spans has -/
def card : List Span → Int
  | [] => 0
  | s :: l => (s.To - s.From) + card l
theorem card_append (a b : List Span) : card (a ++ b) = card a + card b := by
  induction a with
  | nil => simp [card]
  | cons s a ih => simp only [List.cons_append, card, ih]; omega
theorem card_nn {l : List Span} (h : VS l) : 0 ≤ card l := by
  induction l with
  | nil => exact Int.le_refl _
  | cons s l ih =>
    obtain ⟨h1, h2, h3⟩ := h.tail
    have := ih h1
    simp only [card]
    omega
theorem card_pos {l : List Span} (h : VS l) (hl : l ≠ []) : 0 < card l := by
  cases l with
  | nil => exact absurd rfl hl
  | cons s l =>
    obtain ⟨h1, h2, h3⟩ := h.tail
    have := card_nn h1
    simp only [card]
    omega
/-- a valid list within bounds has no more numbers than there are -/
theorem card_le {lo hi : Int} : ∀ {l : List Span}, VS l → EB lo hi l → lo ≤ hi → card l ≤ hi - lo
  | [], _, _, h => by simp only [card]; omega
  | s :: l, hv, he, hlh => by
    obtain ⟨h1, h2, h3⟩ := hv.tail
    have hs := he s (by simp)
    have ih := card_le (lo := s.To) (hi := hi) h1 (fun t ht => by
      have q1 := he t (List.mem_cons_of_mem _ ht)
      have q2 := h3 t ht
      have q3 := h1.ne t ht
      omega) (by omega)
    simp only [card]
    omega
theorem EB.sub {lo hi : Int} {a b : List Span} (h : EB lo hi b) (hs : ∀ s ∈ a, s ∈ b) : EB lo hi a := fun s q => h s (hs s q)

theorem EB.wide {lo hi lo' hi' : Int} {l : List Span} (h : EB lo hi l) (h1 : lo' ≤ lo) (h2 : hi ≤ hi') : EB lo' hi' l := fun s hs => by
  have := h s hs
  omega

/-- the n least numbers -/
def firstL : Int → List Span → List Span
  | _, [] => []
  | n, s :: l => if n < 1 then [] else if n < s.To - s.From then [⟨s.From, s.From + n⟩] else s :: firstL (n - (s.To - s.From)) l
theorem firstL_zero (l : List Span) {n : Int} (h : n < 1) : firstL n l = [] := by
  cases l with
  | nil => rfl
  | cons s l => simp [firstL, h]
theorem u64_mod (x : Int) : IntKind.u64.wrap x = x % 18446744073709551616 := by
  simp only [IntKind.wrap, IntKind.bits, IntKind.signed]
  simp
theorem u64_sub {a b : Int} (h0 : b < a) (h1 : a - b < 9223372036854775808) : IntKind.u64.wrap (IntKind.u64.wrap a - IntKind.u64.wrap b) = a - b := by
  rw [u64_mod, u64_mod, u64_mod]
  omega
theorem first_spec {l : List Span} {n : Int} (hl : l.length < 50) (he : EB (-1152921504606846976) 1152921504606846976 l) (n0 : 0 ≤ n) (n1 : n ≤ 1000000) : ∃ r, NS l r ∧ span_First l n = some (firstL n r) := by
  obtain ⟨r, er, hr⟩ := normal_spec hl
  have h1 := hr.len
  have hre := hr.eb he
  refine ⟨r, hr, ?_⟩
  unfold span_First
  rw [er]
  simp only [Option.bind_some]
  obtain ⟨o, eo, ho⟩ := loop_foldE (body := span_First_l1 r) (fun (a : Int × List Span) i => (a.1, a.2, i)) r.length (fun i a => 0 ≤ a.1 ∧ a.1 ≤ 1000000 ∧ a.2.length ≤ i ∧ a.2 ++ firstL a.1 (r.drop i) = firstL n r) (fun o => o = firstL n r) (fun i hi a ⟨g1, g2, g3, g4⟩ => by
    obtain ⟨m, out⟩ := a
    simp only at g1 g2 g3 g4
    have b1 := hre _ (List.getElem_mem hi)
    have b2 := hr.vs.ne _ (List.getElem_mem hi)
    rw [List.drop_eq_getElem_cons hi] at g4
    unfold span_First_l1
    simp only
    rw [if_pos (decide_eq_true (by omega)), ix_nat _ _ hi]
    simp only [Option.bind_some]
    by_cases hm : m < 1
    · rw [if_pos (decide_eq_true hm)]
      refine .inr ⟨_, rfl, ?_⟩
      rw [firstL_zero _ hm, List.append_nil] at g4
      exact g4
    · rw [if_neg (by simpa using hm), u64_sub b2 (by omega), u64_id (x := m) (by omega) (by omega)]
      unfold span_First_j1
      simp only
      rw [w64_n (n := i) (by omega)]
      simp only [firstL] at g4
      rw [if_neg hm] at g4
      left
      by_cases hlt : m < r[i].To - r[i].From
      · rw [if_pos (decide_eq_true hlt), appM_one _ _ _ (by simp; omega) (by decide), w64_id (x := r[i].From + m) (by omega) (by omega)]
        rw [if_pos hlt] at g4
        refine ⟨(0, out ++ [⟨r[i].From, r[i].From + m⟩]), rfl, Int.le_refl _, by simp only; omega, by simp; omega, ?_⟩
        simp only
        rw [firstL_zero _ (by decide), List.append_nil]
        exact g4
      · rw [if_neg (by simpa using hlt), w64_id (x := r[i].To - r[i].From) (by omega) (by omega), w64_id (x := m - (r[i].To - r[i].From)) (by omega) (by omega), appM_one _ _ _ (by simp; omega) (by decide)]
        rw [if_neg hlt] at g4
        refine ⟨(m - (r[i].To - r[i].From), out ++ [r[i]]), rfl, by simp only; omega, by simp only; omega, by simp; omega, ?_⟩
        simp only
        rw [List.append_assoc]
        exact g4) (fun a ⟨g1, g2, g3, g4⟩ => by
    unfold span_First_l1
    simp only
    rw [if_neg (by simp)]
    rw [List.drop_eq_nil_of_le (Nat.le_refl _)] at g4
    simp only [firstL, List.append_nil] at g4
    exact ⟨_, rfl, g4⟩) (n, []) ⟨n0, n1, Nat.le_refl _, by simp⟩
  rw [eo, ho]
  rfl
structure FS (n : Int) (r f : List Span) : Prop where
  vs : VS f
  card : card f = min n (card r)
  low : ∀ s ∈ f, ∀ x, r.head?.map (·.From) = some x → x ≤ s.From
  mem : ∀ z, Mem f z → Mem r z
  ends : ∀ z u, Mem r z → ¬ Mem f z → Mem f u → u < z
  len : f.length ≤ r.length
  eb : ∀ lo hi, EB lo hi r → EB lo hi f
theorem first_fs : ∀ {r : List Span} {n : Int}, VS r → 0 ≤ n → FS n r (firstL n r)
  | [], n, _, h => ⟨VS.nil, by simp [firstL, Sh.card]; omega, fun s hs => (by cases hs), fun z h => h, fun z u h => absurd h Mem.nil, Nat.le_refl _, fun _ _ _ s hs => (by cases hs)⟩
  | s :: l, n, hv, h => by
    obtain ⟨h1, h2, h3⟩ := hv.tail
    have hc := card_nn h1
    by_cases hn : n < 1
    · rw [firstL_zero _ hn]
      refine ⟨VS.nil, by simp [Sh.card]; omega, fun s hs => (by cases hs), fun z h => absurd h Mem.nil, fun z u _ _ h => absurd h Mem.nil, Nat.zero_le _, fun _ _ _ s hs => (by cases hs)⟩
    · by_cases hlt : n < s.To - s.From
      · have e : firstL n (s :: l) = [⟨s.From, s.From + n⟩] := by simp only [firstL]; rw [if_neg hn, if_pos hlt]
        rw [e]
        refine ⟨VS.nil.snoc (t := ⟨s.From, s.From + n⟩) (by simp only; omega) (fun s hs => (by cases hs)), ?_, fun t ht x hx => ?_, fun z hz => ?_, fun z u hz hz' hu => ?_, by simp, fun lo hi he => ?_⟩
        · simp only [Sh.card]; omega
        · rcases List.mem_singleton.1 ht with rfl
          simp at hx
          simp only; omega
        · rw [mem_one] at hz
          simp only at hz
          exact mem_cons.2 (.inl ⟨hz.1, by omega⟩)
        · rw [mem_one] at hz' hu
          simp only at hz' hu
          have := hv.low hz
          omega
        · have := he s (by simp)
          exact EB.one (by simp only; omega)
      · have e : firstL n (s :: l) = s :: firstL (n - (s.To - s.From)) l := by simp only [firstL]; rw [if_neg hn, if_neg hlt]
        have ih := first_fs (r := l) (n := n - (s.To - s.From)) h1 (by omega)
        have hlow : ∀ t ∈ firstL (n - (s.To - s.From)) l, s.To < t.From := fun t ht => by
          cases l with
          | nil => simp [firstL] at ht
          | cons a l =>
            have := ih.low t ht a.From (by simp)
            have := h3 a (by simp)
            omega
        rw [e]
        refine ⟨⟨fun t ht => ?_, List.pairwise_cons.2 ⟨hlow, ih.vs.ap⟩⟩, ?_, fun t ht x hx => ?_, fun z hz => ?_, fun z u hz hz' hu => ?_, by simpa using ih.len, fun lo hi he => ?_⟩
        · rcases List.mem_cons.1 ht with rfl | ht
          · exact h2
          · exact ih.vs.ne t ht
        · simp only [Sh.card]
          rw [ih.card]
          omega
        · simp at hx
          rcases List.mem_cons.1 ht with rfl | ht
          · omega
          · have := hlow t ht; omega
        · rcases mem_cons.1 hz with g | g
          · exact mem_cons.2 (.inl g)
          · exact mem_cons.2 (.inr (ih.mem z g))
        · rcases mem_cons.1 hz with g | g
          · exact absurd (mem_cons.2 (.inl g)) hz'
          · have hz2 : ¬ Mem (firstL (n - (s.To - s.From)) l) z := fun k => hz' (mem_cons.2 (.inr k))
            rcases mem_cons.1 hu with k | k
            · obtain ⟨t, ht, q⟩ := g
              have := h3 t ht
              omega
            · exact ih.ends z u g hz2 k
        · refine fun t ht => ?_
          rcases List.mem_cons.1 ht with rfl | ht
          · exact he _ (by simp)
          · exact ih.eb lo hi (he.sub fun s hs => List.mem_cons_of_mem _ hs) t ht


end Go.Proofs.Ytiihddcppmjbaaa.Sh

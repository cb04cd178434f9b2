/- Lengths, first numbers, shifts, the dice's lists and the chapter's examples (chapter 8). -/
import Derived.Test.YtmdnhgjpkdainaaSpanO
import Derived.Test.YtmdnhgjpkdainaaDiceN
namespace Go.Proofs.Ytmdnhgjpkdainaa.Sh
open Go
set_option linter.unusedVariables false
set_option linter.unusedSimpArgs false

/-- how many numbers a list of spans has -/
def card : List Span → Int
  | [] => 0
  | s :: l => (s.To - s.From) + card l
theorem card_append (a b : List Span) : card (a ++ b) = card a + card b := by
  induction a with
  | nil => simp [card]
  | cons s a ih => simp only [List.cons_append, card, ih]; omega
theorem card_nn {l : List Span} (h : VS l) : 0 ≤ card l := by
  induction l with
  | nil => exact Int.le_refl _
  | cons s l ih =>
    obtain ⟨h1, h2, h3⟩ := h.tail
    have := ih h1
    simp only [card]
    omega
theorem card_pos {l : List Span} (h : VS l) (hl : l ≠ []) : 0 < card l := by
  cases l with
  | nil => exact absurd rfl hl
  | cons s l =>
    obtain ⟨h1, h2, h3⟩ := h.tail
    have := card_nn h1
    simp only [card]
    omega
/-- a valid list within bounds has no more numbers than there are -/
theorem card_le {lo hi : Int} : ∀ {l : List Span}, VS l → EB lo hi l → lo ≤ hi → card l ≤ hi - lo
  | [], _, _, h => by simp only [card]; omega
  | s :: l, hv, he, hlh => by
    obtain ⟨h1, h2, h3⟩ := hv.tail
    have hs := he s (by simp)
    have ih := card_le (lo := s.To) (hi := hi) h1 (fun t ht => by
      have q1 := he t (List.mem_cons_of_mem _ ht)
      have q2 := h3 t ht
      have q3 := h1.ne t ht
      omega) (by omega)
    simp only [card]
    omega
theorem EB.sub {lo hi : Int} {a b : List Span} (h : EB lo hi b) (hs : ∀ s ∈ a, s ∈ b) : EB lo hi a := fun s q => h s (hs s q)

theorem near_true {l : List Span} (h : EB (-1152921504606846976) 1152921504606846976 l) (hl : l.length ≤ 1000000) : span_near l = some true := by
  unfold span_near
  cases l with
  | nil => simp
  | cons s l =>
    rw [if_neg (by simp <;> omega)]
    have e0 : ix (s :: l) 0 = some s := rfl
    rw [e0]
    simp only [Option.bind_some]
    have h0 := h s (by simp)
    rw [if_pos (decide_eq_true h0.1.1)]
    have e1 : w64 (((s :: l).length : Int) - 1) = (((s :: l).length - 1 : Nat) : Int) := w64_nat (by simp) (by simp at hl ⊢; omega)
    rw [e1, ix_nat _ _ (by simp)]
    simp only [Option.bind_some]
    have hm := h _ (List.getElem_mem (show (s :: l).length - 1 < (s :: l).length by simp))
    rw [decide_eq_true hm.2.2]
theorem length_loop {l : List Span} (hv : VS l) {lo hi : Int} (he : EB lo hi l) (hlh : lo ≤ hi) (hb : hi - lo ≤ 4611686018427387904) (hl : l.length ≤ 1000000) : whileM (span_Length_l1 l) (0, 0) = some (card l) := by
  obtain ⟨r, er, hr⟩ := loop_fold (body := span_Length_l1 l) (fun a i => (a, i)) l.length (fun i a => a = card (l.take i)) (fun r => r = card l) (fun i hi' a ha => by
    unfold span_Length_l1
    simp only
    rw [if_pos (decide_eq_true (by omega)), ix_nat _ _ hi']
    have b1 := he _ (List.getElem_mem hi')
    have b2 := hv.ne _ (List.getElem_mem hi')
    have vt : VS (l.take i) := ⟨fun s hs => hv.ne s (List.mem_of_mem_take hs), hv.ap.sublist (List.take_sublist _ _)⟩
    have b3 := card_le (lo := lo) (hi := hi) vt (he.sub fun s hs => List.mem_of_mem_take hs) hlh
    have b4 := card_nn vt
    have vt2 : VS (l.take (i + 1)) := ⟨fun s hs => hv.ne s (List.mem_of_mem_take hs), hv.ap.sublist (List.take_sublist _ _)⟩
    have b5 := card_le (lo := lo) (hi := hi) vt2 (he.sub fun s hs => List.mem_of_mem_take hs) hlh
    rw [take_one hi', card_append] at b5
    simp only [card] at b5
    have e1 : w64 (l[i].To - l[i].From) = l[i].To - l[i].From := w64_id (by omega) (by omega)
    subst ha
    simp only [Option.bind_some]
    rw [e1, w64_id (x := card (l.take i) + (l[i].To - l[i].From)) (by omega) (by omega), w64_n (n := i) (by omega)]
    refine ⟨_, rfl, ?_⟩
    rw [take_one hi', card_append]
    simp [card]) (fun a ha => by
    unfold span_Length_l1
    simp only
    rw [if_neg (by simp)]
    rw [List.take_of_length_le (Nat.le_refl _)] at ha
    exact ⟨a, rfl, ha⟩) 0 rfl
  rw [er, hr]
theorem length_spec {l : List Span} (hl : l.length < 50) (he : EB (-1152921504606846976) 1152921504606846976 l) : ∃ r, NS l r ∧ span_Length l = some (card r, true) := by
  obtain ⟨r, er, hr⟩ := normal_spec hl
  have h1 := hr.len
  refine ⟨r, hr, ?_⟩
  unfold span_Length
  rw [er]
  simp only [Option.bind_some]
  rw [near_true (hr.eb he) (by omega)]
  simp only [Option.bind_some, Bool.not_true, Bool.false_eq_true, if_false]
  rw [length_loop hr.vs (hr.eb he) (by decide) (by decide) (by omega)]
  rfl
theorem length_valid {l : List Span} (hv : VS l) (hl : l.length < 50) (he : EB (-1152921504606846976) 1152921504606846976 l) : span_Length l = some (card l, true) := by
  obtain ⟨r, hr, e⟩ := length_spec hl he
  rw [hr.self hv] at e
  exact e

/-- the n least numbers -/
def firstL : Int → List Span → List Span
  | _, [] => []
  | n, s :: l => if n < 1 then [] else if n < s.To - s.From then [⟨s.From, s.From + n⟩] else s :: firstL (n - (s.To - s.From)) l
theorem firstL_zero (l : List Span) {n : Int} (h : n < 1) : firstL n l = [] := by
  cases l with
  | nil => rfl
  | cons s l => simp [firstL, h]
theorem u64_mod (x : Int) : IntKind.u64.wrap x = x % 18446744073709551616 := by
  simp only [IntKind.wrap, IntKind.bits, IntKind.signed]
  simp
theorem u64_sub {a b : Int} (h0 : b < a) (h1 : a - b < 9223372036854775808) : IntKind.u64.wrap (IntKind.u64.wrap a - IntKind.u64.wrap b) = a - b := by
  rw [u64_mod, u64_mod, u64_mod]
  omega
theorem first_spec {l : List Span} {n : Int} (hl : l.length < 50) (he : EB (-1152921504606846976) 1152921504606846976 l) (n0 : 0 ≤ n) (n1 : n ≤ 1000000) : ∃ r, NS l r ∧ span_First l n = some (firstL n r) := by
  obtain ⟨r, er, hr⟩ := normal_spec hl
  have h1 := hr.len
  have hre := hr.eb he
  refine ⟨r, hr, ?_⟩
  unfold span_First
  rw [er]
  simp only [Option.bind_some]
  obtain ⟨o, eo, ho⟩ := loop_foldE (body := span_First_l1 r) (fun (a : Int × List Span) i => (a.1, a.2, i)) r.length (fun i a => 0 ≤ a.1 ∧ a.1 ≤ 1000000 ∧ a.2.length ≤ i ∧ a.2 ++ firstL a.1 (r.drop i) = firstL n r) (fun o => o = firstL n r) (fun i hi a ⟨g1, g2, g3, g4⟩ => by
    obtain ⟨m, out⟩ := a
    simp only at g1 g2 g3 g4
    have b1 := hre _ (List.getElem_mem hi)
    have b2 := hr.vs.ne _ (List.getElem_mem hi)
    rw [List.drop_eq_getElem_cons hi] at g4
    unfold span_First_l1
    simp only
    rw [if_pos (decide_eq_true (by omega)), ix_nat _ _ hi]
    simp only [Option.bind_some]
    by_cases hm : m < 1
    · rw [if_pos (decide_eq_true hm)]
      refine .inr ⟨_, rfl, ?_⟩
      rw [firstL_zero _ hm, List.append_nil] at g4
      exact g4
    · rw [if_neg (by simpa using hm), u64_sub b2 (by omega), u64_id (x := m) (by omega) (by omega)]
      unfold span_First_j1
      simp only
      rw [w64_n (n := i) (by omega)]
      simp only [firstL] at g4
      rw [if_neg hm] at g4
      left
      by_cases hlt : m < r[i].To - r[i].From
      · rw [if_pos (decide_eq_true hlt), appM_one _ _ _ (by simp; omega) (by decide), w64_id (x := r[i].From + m) (by omega) (by omega)]
        rw [if_pos hlt] at g4
        refine ⟨(0, out ++ [⟨r[i].From, r[i].From + m⟩]), rfl, Int.le_refl _, by simp only; omega, by simp; omega, ?_⟩
        simp only
        rw [firstL_zero _ (by decide), List.append_nil]
        exact g4
      · rw [if_neg (by simpa using hlt), w64_id (x := r[i].To - r[i].From) (by omega) (by omega), w64_id (x := m - (r[i].To - r[i].From)) (by omega) (by omega), appM_one _ _ _ (by simp; omega) (by decide)]
        rw [if_neg hlt] at g4
        refine ⟨(m - (r[i].To - r[i].From), out ++ [r[i]]), rfl, by simp only; omega, by simp only; omega, by simp; omega, ?_⟩
        simp only
        rw [List.append_assoc]
        exact g4) (fun a ⟨g1, g2, g3, g4⟩ => by
    unfold span_First_l1
    simp only
    rw [if_neg (by simp)]
    rw [List.drop_eq_nil_of_le (Nat.le_refl _)] at g4
    simp only [firstL, List.append_nil] at g4
    exact ⟨_, rfl, g4⟩) (n, []) ⟨n0, n1, Nat.le_refl _, by simp⟩
  rw [eo, ho]
  rfl
structure FS (n : Int) (r f : List Span) : Prop where
  vs : VS f
  card : card f = min n (card r)
  low : ∀ s ∈ f, ∀ x, r.head?.map (·.From) = some x → x ≤ s.From
  mem : ∀ z, Mem f z → Mem r z
  ends : ∀ z u, Mem r z → ¬ Mem f z → Mem f u → u < z
  len : f.length ≤ r.length
  eb : ∀ lo hi, EB lo hi r → EB lo hi f
theorem first_fs : ∀ {r : List Span} {n : Int}, VS r → 0 ≤ n → FS n r (firstL n r)
  | [], n, _, h => ⟨VS.nil, by simp [firstL, Sh.card]; omega, fun s hs => (by cases hs), fun z h => h, fun z u h => absurd h Mem.nil, Nat.le_refl _, fun _ _ _ s hs => (by cases hs)⟩
  | s :: l, n, hv, h => by
    obtain ⟨h1, h2, h3⟩ := hv.tail
    have hc := card_nn h1
    by_cases hn : n < 1
    · rw [firstL_zero _ hn]
      refine ⟨VS.nil, by simp [Sh.card]; omega, fun s hs => (by cases hs), fun z h => absurd h Mem.nil, fun z u _ _ h => absurd h Mem.nil, Nat.zero_le _, fun _ _ _ s hs => (by cases hs)⟩
    · by_cases hlt : n < s.To - s.From
      · have e : firstL n (s :: l) = [⟨s.From, s.From + n⟩] := by simp only [firstL]; rw [if_neg hn, if_pos hlt]
        rw [e]
        refine ⟨VS.nil.snoc (t := ⟨s.From, s.From + n⟩) (by simp only; omega) (fun s hs => (by cases hs)), ?_, fun t ht x hx => ?_, fun z hz => ?_, fun z u hz hz' hu => ?_, by simp, fun lo hi he => ?_⟩
        · simp only [Sh.card]; omega
        · rcases List.mem_singleton.1 ht with rfl
          simp at hx
          simp only; omega
        · rw [mem_one] at hz
          simp only at hz
          exact mem_cons.2 (.inl ⟨hz.1, by omega⟩)
        · rw [mem_one] at hz' hu
          simp only at hz' hu
          have := hv.low hz
          omega
        · have := he s (by simp)
          exact EB.one (by simp only; omega)
      · have e : firstL n (s :: l) = s :: firstL (n - (s.To - s.From)) l := by simp only [firstL]; rw [if_neg hn, if_neg hlt]
        have ih := first_fs (r := l) (n := n - (s.To - s.From)) h1 (by omega)
        have hlow : ∀ t ∈ firstL (n - (s.To - s.From)) l, s.To < t.From := fun t ht => by
          cases l with
          | nil => simp [firstL] at ht
          | cons a l =>
            have := ih.low t ht a.From (by simp)
            have := h3 a (by simp)
            omega
        rw [e]
        refine ⟨⟨fun t ht => ?_, List.pairwise_cons.2 ⟨hlow, ih.vs.ap⟩⟩, ?_, fun t ht x hx => ?_, fun z hz => ?_, fun z u hz hz' hu => ?_, by simpa using ih.len, fun lo hi he => ?_⟩
        · rcases List.mem_cons.1 ht with rfl | ht
          · exact h2
          · exact ih.vs.ne t ht
        · simp only [Sh.card]
          rw [ih.card]
          omega
        · simp at hx
          rcases List.mem_cons.1 ht with rfl | ht
          · omega
          · have := hlow t ht; omega
        · rcases mem_cons.1 hz with g | g
          · exact mem_cons.2 (.inl g)
          · exact mem_cons.2 (.inr (ih.mem z g))
        · rcases mem_cons.1 hz with g | g
          · exact absurd (mem_cons.2 (.inl g)) hz'
          · have hz2 : ¬ Mem (firstL (n - (s.To - s.From)) l) z := fun k => hz' (mem_cons.2 (.inr k))
            rcases mem_cons.1 hu with k | k
            · obtain ⟨t, ht, q⟩ := g
              have := h3 t ht
              omega
            · exact ih.ends z u g hz2 k
        · refine fun t ht => ?_
          rcases List.mem_cons.1 ht with rfl | ht
          · exact he _ (by simp)
          · exact ih.eb lo hi (he.sub fun s hs => List.mem_cons_of_mem _ hs) t ht

/-- all numbers plus one -/
def shiftL (k : Int) (l : List Span) : List Span := l.map fun s => ⟨s.From + k, s.To + k⟩
theorem shift_vs {l : List Span} (h : VS l) (k : Int) : VS (shiftL k l) := by
  refine ⟨fun s hs => ?_, ?_⟩
  · obtain ⟨t, ht, rfl⟩ := List.mem_map.1 hs
    have := h.ne t ht
    simp only; omega
  · unfold shiftL
    rw [List.pairwise_map]
    exact h.ap.imp fun q => by simp only; omega
theorem shift_card (l : List Span) (k : Int) : card (shiftL k l) = card l := by
  induction l with
  | nil => rfl
  | cons s l ih => simp only [shiftL, List.map_cons, card] at *; rw [ih]; omega
theorem shift_back (l : List Span) (k : Int) : shiftL (-k) (shiftL k l) = l := by
  unfold shiftL
  rw [List.map_map]
  have : ((fun s => (⟨s.From + -k, s.To + -k⟩ : Span)) ∘ fun s => (⟨s.From + k, s.To + k⟩ : Span)) = id := by
    funext s
    cases s
    simp
    omega
  rw [this, List.map_id]
theorem shift_loop {l : List Span} (hl : l.length ≤ 1000000) {k : Int} (k0 : -1152921504606846976 ≤ k) (k1 : k ≤ 1152921504606846976) (he : EB (-1152921504606846976) 1152921504606846976 l) : whileM (span_Shift_l1 k l) (l, 0) = some (shiftL k l) := by
  obtain ⟨r, er, hr⟩ := loop_fold (body := span_Shift_l1 k l) (fun a i => (a, i)) l.length (fun i a => a = shiftL k (l.take i) ++ l.drop i) (fun r => r = shiftL k l) (fun i hi a ha => by
    subst ha
    have b := he _ (List.getElem_mem hi)
    have hlen : (shiftL k (l.take i)).length = i := by simp [shiftL]; omega
    have hdrop := List.drop_eq_getElem_cons hi
    have hfull : (shiftL k (l.take i) ++ l.drop i).length = l.length := by rw [List.length_append, hlen, List.length_drop]; omega
    have hx : ∀ (t : Span) (d : List Span), ix (shiftL k (l.take i) ++ t :: d) (i : Int) = some t := fun t d => by
      rw [ix_nat _ _ (by rw [List.length_append, hlen]; simp), List.getElem_append_right (by omega)]
      simp [hlen]
    have hset : ∀ (t t' : Span) (d : List Span), setM (shiftL k (l.take i) ++ t :: d) (i : Int) t' = some (shiftL k (l.take i) ++ t' :: d) := fun t t' d => by
      rw [setM_at _ _ _ (by omega) (by rw [List.length_append, hlen]; simp; omega), Int.toNat_natCast, List.set_append, if_neg (by omega), hlen, Nat.sub_self]
      rfl
    unfold span_Shift_l1
    simp only
    rw [if_pos (decide_eq_true (by omega)), hdrop, hx]
    simp only [Option.bind_some]
    rw [hset]
    simp only [Option.bind_some]
    rw [hx]
    simp only [Option.bind_some]
    rw [hset]
    simp only [Option.bind_some]
    rw [w64_id (x := l[i].From + k) (by omega) (by omega), w64_id (x := l[i].To + k) (by omega) (by omega), w64_n (n := i) (by omega)]
    refine ⟨_, rfl, ?_⟩
    rw [take_one hi]
    unfold shiftL
    rw [List.map_append, List.append_assoc]
    rfl) (fun a ha => by
    unfold span_Shift_l1
    simp only
    rw [if_neg (by simp)]
    rw [List.take_of_length_le (Nat.le_refl _), List.drop_eq_nil_of_le (Nat.le_refl _), List.append_nil] at ha
    exact ⟨a, rfl, ha⟩) l (by simp [shiftL])
  rw [er, hr]
theorem shift_spec {l : List Span} (hl : l.length < 50) {k : Int} (k0 : -1152921504606846976 ≤ k) (k1 : k ≤ 1152921504606846976) (he : EB (-1152921504606846976) 1152921504606846976 l) : ∃ r, NS l r ∧ span_Shift l k = some (shiftL k r, 0) := by
  obtain ⟨r, er, hr⟩ := normal_spec hl
  have h1 := hr.len
  refine ⟨r, hr, ?_⟩
  unfold span_Shift
  rw [er]
  simp only [Option.bind_some]
  rw [if_neg (by simp; omega), near_true (hr.eb he) (by omega)]
  simp only [Option.bind_some, Bool.not_true, Bool.false_eq_true, if_false]
  rw [shift_loop (by omega) k0 k1 (hr.eb he)]
  rfl

/-- the lists that the dice make -/
theorem dspans {d : Dice} (hd : DOK d) : ∃ l d', made_Dice_Spans d = some (l, d') ∧ l.length ≤ 5 ∧ EB (-1) 36 l ∧ DOK d' := by
  unfold made_Dice_Spans
  obtain ⟨m, d1, e1, m0, m1, hd1⟩ := next_spec hd (n := 6) (by decide) (by decide)
  rw [e1]
  simp only [Option.bind_some]
  obtain ⟨⟨a, b, l⟩, er, hr, hl, hb⟩ := loop_ex (b1 := made_Dice_Spans_l1)
    (fun k s => DOK ⟨s.1, s.2.1⟩ ∧ EB (-1) 36 s.2.2.1 ∧ 0 ≤ s.2.2.2 ∧ s.2.2.2 + s.2.2.1.length ≤ 5 ∧ k = s.2.2.2.toNat)
    (fun r => DOK ⟨r.1, r.2.1⟩ ∧ EB (-1) 36 r.2.2 ∧ r.2.2.length ≤ 5) (by
      rintro k ⟨L, A, out, i⟩ ⟨h1, h2, h3, h4, hk⟩
      simp only at h1 h2 h3 h4 hk
      unfold made_Dice_Spans_l1
      simp only
      by_cases hi : 0 < i
      · left
        rw [if_pos (decide_eq_true hi)]
        obtain ⟨x, d2, e2, x0, x1, hd2⟩ := next_spec h1 (n := 30) (by decide) (by decide)
        rw [e2]
        simp only [Option.bind_some]
        obtain ⟨y, d3, e3, y0, y1, hd3⟩ := next_spec hd2 (n := 8) (by decide) (by decide)
        rw [e3]
        simp only [Option.bind_some]
        rw [appM_one _ _ _ (by simp; omega) (by decide), w64_id (x := x + y) (by omega) (by omega), w64_id (x := x + y - 1) (by omega) (by omega), w64_id (x := i - 1) (by omega) (by omega)]
        exact ⟨_, k - 1, rfl, ⟨hd3, h2.app (EB.one (by simp only; omega)), by simp only; omega, by simp; omega, by simp only; omega⟩, by omega⟩
      · right
        rw [if_neg (by simpa using hi)]
        exact ⟨_, rfl, h1, h2, by simp only; omega⟩) m.toNat (d1.L, d1.At, [], m) ⟨hd1, fun s hs => (by cases hs), m0, by simp only [List.length_nil]; omega, rfl⟩
  rw [er]
  exact ⟨l, ⟨a, b⟩, rfl, hb, hl, hr⟩
theorem EB.wide {lo hi lo' hi' : Int} {l : List Span} (h : EB lo hi l) (h1 : lo' ≤ lo) (h2 : hi ≤ hi') : EB lo' hi' l := fun s hs => by
  have := h s hs
  omega

theorem sane_true : law08_sane = some true := by
  unfold law08_sane
  obtain ⟨r, er, hr⟩ := normal_spec (l := [(⟨5, 7⟩ : Span), (⟨1, 3⟩ : Span), (⟨3, 4⟩ : Span), (⟨9, 9⟩ : Span)]) (by decide)
  have hv : VS [(⟨1, 4⟩ : Span), (⟨5, 7⟩ : Span)] := ⟨by decide, by decide⟩
  have e : r = [(⟨1, 4⟩ : Span), (⟨5, 7⟩ : Span)] := hr.vs.uniq hv (fun x => by
    rw [hr.mem]
    simp only [mem_cons]
    have := @Mem.nil x
    constructor
    · rintro (g | g | g | g | g) <;> first | (exact absurd g this) | (left; omega) | (right; left; omega) | omega
    · rintro (g | g | g)
      · by_cases h3 : x < 3
        · right; left; omega
        · right; right; left; omega
      · left; omega
      · exact absurd g this)
  subst e
  rw [er]
  simp only [Option.bind_some]
  rw [same_refl _ (by decide)]
  simp only [Option.bind_some, if_true]
  obtain ⟨r2, hr2, ef⟩ := first_spec (l := [(⟨1, 4⟩ : Span), (⟨5, 7⟩ : Span)]) (n := 4) (by decide) (fun s hs => by simp at hs; rcases hs with rfl | rfl <;> decide) (by decide) (by decide)
  rw [hr2.self hv] at ef
  rw [ef]
  simp only [Option.bind_some]
  have e4 : firstL 4 [(⟨1, 4⟩ : Span), (⟨5, 7⟩ : Span)] = [(⟨1, 4⟩ : Span), (⟨5, 6⟩ : Span)] := by decide
  rw [e4, same_refl _ (by decide)]
  simp only [Option.bind_some, if_true]
  rw [valid_true hv (by decide)]
  rfl

end Go.Proofs.Ytmdnhgjpkdainaa.Sh

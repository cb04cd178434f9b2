/- LinkCounts: the law returns true at every input (chapter 9). -/
import Derived.Test.YtljdiobhmenjgaaWire3
namespace Go.Proofs.Ytljdiobhmenjgaa.Sh
open Go
set_option linter.unusedVariables false
set_option linter.unusedSimpArgs false

theorem cnt_put (k : Int) (m : Transit) (l : List Transit) : (dueL k (putL m l)).length = (dueL k l).length + if m.At = k then 1 else 0 := by
  have hsplit : (dueL k l).length = ((l.filter (fun x => decide (x.At ≤ m.At))).filter (fun x => x.At == k)).length + ((l.filter (fun x => decide (m.At < x.At))).filter (fun x => x.At == k)).length := by
    unfold dueL
    induction l with
    | nil => rfl
    | cons x l ih =>
      have pos : ∀ L : List Transit, (x.At == k) = true → (x :: L).filter (fun x => x.At == k) = x :: L.filter (fun x => x.At == k) := fun L h => List.filter_cons_of_pos h
      have neg : ∀ L : List Transit, ¬ (x.At == k) = true → (x :: L).filter (fun x => x.At == k) = L.filter (fun x => x.At == k) := fun L h => List.filter_cons_of_neg h
      by_cases h : x.At ≤ m.At
      · have f1 : (x :: l).filter (fun x => decide (x.At ≤ m.At)) = x :: l.filter (fun x => decide (x.At ≤ m.At)) := List.filter_cons_of_pos (decide_eq_true h)
        have f2 : (x :: l).filter (fun x => decide (m.At < x.At)) = l.filter (fun x => decide (m.At < x.At)) := List.filter_cons_of_neg (by simpa using h)
        rw [f1, f2]
        by_cases hk : (x.At == k) = true
        · rw [pos l hk, pos _ hk, List.length_cons, List.length_cons]; omega
        · rw [neg l hk, neg _ hk]; exact ih
      · have f1 : (x :: l).filter (fun x => decide (x.At ≤ m.At)) = l.filter (fun x => decide (x.At ≤ m.At)) := List.filter_cons_of_neg (by simpa using h)
        have f2 : (x :: l).filter (fun x => decide (m.At < x.At)) = x :: l.filter (fun x => decide (m.At < x.At)) := List.filter_cons_of_pos (decide_eq_true (by omega))
        rw [f1, f2]
        by_cases hk : (x.At == k) = true
        · rw [pos l hk, pos _ hk, List.length_cons, List.length_cons]; omega
        · rw [neg l hk, neg _ hk]; exact ih
  rw [hsplit]
  unfold dueL putL
  rw [List.filter_append, List.filter_cons, List.length_append]
  by_cases hk : m.At = k
  · rw [if_pos (by simpa using hk), if_pos hk, List.length_cons]; omega
  · rw [if_neg (by simpa using hk), if_neg hk]; omega
theorem cnt_send (k base o : Int) (data : ByteArray) (l : List Transit) : ∀ n : Nat, ((dueL k (sendL base o data n l)).length : Int) = (dueL k l).length + if base ≤ k ∧ k < base + n then 1 else 0
  | 0 => by
    rw [if_neg (by omega)]
    simp only [sendL]
    omega
  | n + 1 => by
    have ih := cnt_send k base o data l n
    simp only [sendL]
    rw [cnt_put]
    simp only
    by_cases h1 : base + (n : Int) = k
    · rw [if_pos h1, if_pos (by omega)]
      rw [if_neg (by omega)] at ih
      omega
    · rw [if_neg h1]
      by_cases h2 : base ≤ k ∧ k < base + (n : Int)
      · rw [if_pos h2] at ih
        rw [if_pos (by omega)]
        omega
      · rw [if_neg h2] at ih
        rw [if_neg (by omega)]
        omega
theorem cnt_rest {k t : Int} (h : k ≠ t) (l : List Transit) : dueL k (restL t l) = dueL k l := by
  unfold dueL restL
  rw [List.filter_filter]
  congr 1
  funext x
  by_cases hx : x.At = k
  · have : x.At ≠ t := by omega
    simp [hx, h]
  · simp [hx]
theorem due_rest (t : Int) (l : List Transit) : (dueL t l).length + (restL t l).length = l.length := by
  unfold dueL restL
  induction l with
  | nil => rfl
  | cons x l ih =>
    simp only [List.filter_cons]
    by_cases h : x.At = t
    · rw [if_pos (by simpa using h), if_neg (by simp [h]), List.length_cons, List.length_cons]; omega
    · rw [if_neg (by simpa using h), if_pos (by simp [h]), List.length_cons, List.length_cons]; omega
theorem foldl_min {x : Int} : ∀ {l : List Transit}, (∀ y ∈ l, x ≤ y.At) → l.foldl nstep (x, true) = (x, true)
  | [], _ => rfl
  | y :: l, h => by
    have hy := h y (by simp)
    have : nstep (x, true) y = (x, true) := by
      unfold nstep
      rw [if_neg (by simp; omega)]
    rw [List.foldl_cons, this]
    exact foldl_min (fun z hz => h z (List.mem_cons_of_mem _ hz))

/-- what is counted when a tick begins -/
structure CI (i : Nat) (w : Wire) (m : Mp Int) (total got : Int) (top : Nat) : Prop where
  v : WV w
  n : w.Now = (i : Int)
  o : w.Order ≤ top
  l : w.Items.length ≤ 3 * top
  d : ∀ k : Int, (i : Int) < k → m.at_ k = ((dueL k w.Items).length : Int)
  mn : m.n ≤ 3 * top
  tg : total = got + w.Items.length
  tt : 0 ≤ got ∧ total ≤ 3 * top
  a : ∀ x ∈ w.Items, x.At ≤ 21

theorem due_loop {i : Nat} {w : Wire} {m : Mp Int} {total got : Int} {f : Fault} {d : Dice} (h : CI i w m total got i) (hi : i < 14) (fd : 0 ≤ f.Delay ∧ f.Delay ≤ 5) (fc : 0 ≤ f.Copies ∧ f.Copies ≤ 2)
    (sv : List Int × Int × Int × Int × List Transit × Mp Int × Int × Int × Int) (hs1 : sv.2.2.2.2.2.2.2.2 = (i : Int)) :
    ∃ m2, whileM (law09_LinkCounts_l11 sv (f, d)) (m, total, 0) = some (m2, total + (cop f : Int)) ∧ m2.n = m.n + cop f ∧ ∀ k : Int, m2.at_ k = m.at_ k + if (i : Int) + 1 + f.Delay ≤ k ∧ k < (i : Int) + 1 + f.Delay + (cop f : Int) then 1 else 0 := by
  have hll := h.l
  have hmn := h.mn
  have htt := h.tt
  have hcop : cop f ≤ 3 := by unfold cop; split <;> omega
  obtain ⟨r, er, m2, rfl, h1, h2⟩ := loop_fold (body := law09_LinkCounts_l11 sv (f, d)) (fun (a : Mp Int × Int) j => (a.1, a.2, j)) (cop f)
    (fun j a => a.2 = total + j ∧ a.1.n = m.n + j ∧ ∀ k : Int, a.1.at_ k = m.at_ k + if (i : Int) + 1 + f.Delay ≤ k ∧ k < (i : Int) + 1 + f.Delay + (j : Int) then 1 else 0)
    (fun r => ∃ m2 : Mp Int, r = (m2, total + (cop f : Int)) ∧ m2.n = m.n + cop f ∧ ∀ k : Int, m2.at_ k = m.at_ k + if (i : Int) + 1 + f.Delay ≤ k ∧ k < (i : Int) + 1 + f.Delay + (cop f : Int) then 1 else 0) (fun j hj a ⟨g1, g2, g3⟩ => by
      obtain ⟨p, t⟩ := a
      simp only at g1 g2 g3
      have hdr : f.Drop = false := by
        cases hD : f.Drop with
        | false => rfl
        | true => unfold cop at hj; rw [hD] at hj; simp at hj
      have hjc : (j : Int) ≤ f.Copies := by unfold cop at hj; rw [hdr] at hj; simp at hj; omega
      have hkey : w64 (w64 (w64 ((i : Int) + 1) + f.Delay) + (j : Int)) = (i : Int) + 1 + f.Delay + j := by
        rw [w64_id (x := (i : Int) + 1) (by omega) (by omega), w64_id (x := (i : Int) + 1 + f.Delay) (by omega) (by omega), w64_id (by omega) (by omega)]
      have hcur : p.at_ ((i : Int) + 1 + f.Delay + j) = ((dueL ((i : Int) + 1 + f.Delay + j) w.Items).length : Int) := by
        rw [g3, if_neg (by omega), h.d _ (by omega)]; omega
      have hcl : (dueL ((i : Int) + 1 + f.Delay + j) w.Items).length ≤ w.Items.length := List.length_filter_le _ _
      have ht0 := htt.1
      have htg := h.tg
      unfold law09_LinkCounts_l11
      simp only
      rw [if_pos (by simp [hdr, hjc]), hs1, hkey]
      have eg : p.get ((i : Int) + 1 + f.Delay + j) = some ((dueL ((i : Int) + 1 + f.Delay + j) w.Items).length : Int) := by
        unfold Mp.get; rw [if_pos (by omega), hcur]
      rw [eg]
      simp only [Option.bind_some]
      rw [w64_id (x := ((dueL ((i : Int) + 1 + f.Delay + j) w.Items).length : Int) + 1) (by omega) (by omega)]
      have ep : ∀ v : Int, 0 ≤ v → v ≤ 1000 → p.put ((i : Int) + 1 + f.Delay + j) v = some ⟨p.n + 1, fun y => if y = (i : Int) + 1 + f.Delay + j then v else p.at_ y⟩ := fun v v0 v1 => by
        unfold Mp.put
        rw [if_pos ⟨by omega, by omega, by simp [MpEl.ok]; omega⟩]
      rw [ep _ (by omega) (by omega)]
      simp only [Option.bind_some]
      rw [w64_id (x := t + 1) (by omega) (by omega), w64_n (by omega)]
      refine ⟨(_, _), rfl, by simp only; omega, by simp only; omega, fun k => ?_⟩
      simp only
      by_cases hk : k = (i : Int) + 1 + f.Delay + j
      · rw [if_pos hk, if_pos (by omega), hk, ← hcur, g3, if_neg (by omega)]; omega
      · rw [if_neg hk, g3]
        by_cases hq : (i : Int) + 1 + f.Delay ≤ k ∧ k < (i : Int) + 1 + f.Delay + (j : Int)
        · rw [if_pos hq, if_pos (by omega)]
        · rw [if_neg hq, if_neg (by omega)]) (fun a ⟨g1, g2, g3⟩ => by
      unfold law09_LinkCounts_l11
      simp only
      have hc : ¬ (decide ((cop f : Int) ≤ f.Copies) && !f.Drop) = true := by
        unfold cop
        cases hD : f.Drop with
        | true => simp
        | false => simp; omega
      rw [if_neg hc]
      exact ⟨_, rfl, a.1, by rw [← g1], g2, g3⟩) (m, total) ⟨by simp, by simp, fun k => by rw [if_neg (by omega)]; simp⟩
  exact ⟨m2, er, h1, h2⟩

theorem c_tick {i top : Nat} {w : Wire} {m : Mp Int} {total got : Int} (h : CI i w m total got top) (hi : i < 30) (htop : top ≤ 100) (L : List Int) (A : Int)
    (sv : List Int × Int × Int × Int × List Transit × Mp Int × Int × Int × Int) (hs1 : sv.2.2.2.2.2.2.2.2 = (i : Int)) (hs2 : sv.2.2.2.2.2.2.2.1 = got) :
    ∃ w2 got2, CI (i + 1) w2 m total got2 top ∧ law09_LinkCounts_j1 sv L A w.Now w.Order w.Items m total = some (.inl (L, A, w2.Now, w2.Order, w2.Items, m, total, got2, ((i + 1 : Nat) : Int))) := by
  have hn := h.n
  have hl := h.l
  have htt := h.tt
  have htg := h.tg
  have ew : (⟨w.Now, w.Order, w.Items⟩ : Wire) = w := rfl
  have t1 := (tick_spec h.v (by omega)).1
  have v1 := rest_wv h.v (by omega)
  rw [hn] at t1 v1
  have hdr := due_rest ((i : Int) + 1) w.Items
  refine ⟨⟨(i : Int) + 1, w.Order, restL ((i : Int) + 1) w.Items⟩, got + ((dueL ((i : Int) + 1) w.Items).length : Int), ⟨v1, by simp, h.o, ?_, fun k hk => ?_, h.mn, ?_, by omega, fun x hx => h.a x (List.mem_filter.1 hx).1⟩, ?_⟩
  · simp only; omega
  · simp only
    rw [h.d k (by omega), cnt_rest (by omega)]
  · simp only; omega
  · unfold law09_LinkCounts_j1
    rw [ew, next_spec' w (by omega), t1]
    simp only [Option.bind_some]
    rw [hs1, hs2, w64_id (x := (i : Int) + 1) (by omega) (by omega)]
    have eg : m.get ((i : Int) + 1) = some ((dueL ((i : Int) + 1) w.Items).length : Int) := by
      unfold Mp.get; rw [if_pos (by omega), h.d _ (by omega)]
    rw [eg]
    simp only [bne_self_eq_false, Bool.or_self, Bool.false_eq_true, if_false, Option.bind_some, List.length_map]
    have hlast : (decide ((0 : Int) < ((dueL ((i : Int) + 1) w.Items).length : Int)) == ((w.Items.foldl nstep (0, false)).2 && ((w.Items.foldl nstep (0, false)).1 == (i : Int) + 1))) = true := by
      rw [beq_iff_eq]
      cases hI : w.Items with
      | nil => simp [dueL]
      | cons x l =>
        have hs := h.v.s
        rw [hI] at hs
        have hx := (h.v.i x (by rw [hI]; simp)).a
        have hle : ∀ y ∈ l, x.At ≤ y.At := fun y hy => by
          have := (List.pairwise_cons.1 hs).1 y hy
          unfold tlt at this; omega
        have hfold : (x :: l).foldl nstep (0, false) = (x.At, true) := by
          rw [List.foldl_cons]
          have : nstep (0, false) x = (x.At, true) := by unfold nstep; simp
          rw [this]
          exact foldl_min hle
        rw [hfold]
        simp only [Bool.true_and]
        by_cases hq : x.At = (i : Int) + 1
        · have : (0 : Int) < ((dueL ((i : Int) + 1) (x :: l)).length : Int) := by
            unfold dueL
            rw [List.filter_cons, if_pos (by simpa using hq)]
            simp
          rw [decide_eq_true this, hq]
          simp
        · have : (dueL ((i : Int) + 1) (x :: l)) = [] := List.filter_eq_nil_iff.2 (fun y hy => by
            rcases List.mem_cons.1 hy with rfl | hy
            · simpa using hq
            · have := hle y hy
              rw [hn] at hx
              simp; omega)
          rw [this]
          simp [hq]
    rw [hlast]
    simp only [Bool.not_true, Bool.or_self, Bool.false_eq_true, if_false, Option.bind_some]
    have hdl : (dueL ((i : Int) + 1) w.Items).length ≤ w.Items.length := List.length_filter_le _ _
    rw [w64_id (x := got + ((dueL ((i : Int) + 1) w.Items).length : Int)) (by omega) (by omega)]
    rfl

theorem law09_LinkCounts_true (t : List Int) (_ : (t.length : Int) ≤ 140737488355328 ∧ ∀ x ∈ t, -9223372036854775808 ≤ x ∧ x ≤ 9223372036854775807) : law09_LinkCounts t = some true := by
  unfold law09_LinkCounts
  rw [light_spec]
  simp only [Option.bind_some]
  by_cases hl : t.length ≤ 500
  case neg => rw [decide_eq_false hl, wsane_true]; rfl
  rw [decide_eq_true hl]
  have e0 : link_New = some ⟨0, 0, []⟩ := rfl
  simp only [Bool.not_true, Bool.false_eq_true, if_false, made_Roll, e0, Option.bind_some]
  obtain ⟨_, e, rfl⟩ := loop_fold (body := law09_LinkCounts_l7) (fun (s : Dice × Wire × Mp Int × Int × Int) i => (s.1.L, s.1.At, s.2.1.Now, s.2.1.Order, s.2.1.Items, s.2.2.1, s.2.2.2.1, s.2.2.2.2, i)) 30
    (fun i s => DOK s.1 ∧ CI i s.2.1 s.2.2.1 s.2.2.2.1 s.2.2.2.2 i) (fun x => x = true) (fun i hi s ⟨hd, h⟩ => by
      obtain ⟨d, w, m, total, got⟩ := s
      simp only at hd h
      have ed : (⟨d.L, d.At⟩ : Dice) = d := rfl
      have ew : (⟨w.Now, w.Order, w.Items⟩ : Wire) = w := rfl
      have hw : CI i w m total got (i + 1) := by
        have h1 := h.o
        have h2 := h.l
        have h3 := h.mn
        have h4 := h.tt
        exact ⟨h.v, h.n, by omega, by omega, h.d, by omega, h.tg, by omega, h.a⟩
      have plain : ∀ d' : Dice, DOK d' → ∃ a' : Dice × Wire × Mp Int × Int × Int, law09_LinkCounts_j1 (d.L, d.At, w.Now, w.Order, w.Items, m, total, got, (i : Int)) d'.L d'.At w.Now w.Order w.Items m total = some (.inl (a'.1.L, a'.1.At, a'.2.1.Now, a'.2.1.Order, a'.2.1.Items, a'.2.2.1, a'.2.2.2.1, a'.2.2.2.2, ((i + 1 : Nat) : Int))) ∧ (DOK a'.1 ∧ CI (i + 1) a'.2.1 a'.2.2.1 a'.2.2.2.1 a'.2.2.2.2 (i + 1)) := fun d' hd' => by
        obtain ⟨w2, g2, hC, e⟩ := c_tick hw (by omega) (by omega) d'.L d'.At (d.L, d.At, w.Now, w.Order, w.Items, m, total, got, (i : Int)) rfl rfl
        exact ⟨(d', w2, m, total, g2), e, hd', hC⟩
      unfold law09_LinkCounts_l7
      simp only
      rw [if_pos (by simp; omega), ed]
      by_cases h14 : i < 14
      · rw [if_pos (decide_eq_true (by omega))]
        obtain ⟨x, d1, e1, x0, x1, hd1⟩ := next_spec hd (n := 2) (by decide) (by decide)
        rw [e1]
        simp only [Option.bind_some]
        have ed1 : (⟨d1.L, d1.At⟩ : Dice) = d1 := rfl
        cases hx : (x == 0) with
        | false =>
          simp only [Bool.false_eq_true, if_false]
          exact plain d1 hd1
        | true =>
          simp only [if_true]
          obtain ⟨f, d2, e2, fd, fc, hd2⟩ := dfault hd1
          have hcop : cop f ≤ 3 := by unfold cop; split <;> omega
          have hfv : FV f := ⟨by omega, by omega⟩
          have hll := h.l
          have hoo := h.o
          have hn := h.n
          have htt := h.tt
          have htg := h.tg
          have hmn := h.mn
          obtain ⟨sw, _, vw⟩ := send_spec (data := ⟨#[109]⟩) h.v hfv (by decide) (by omega) (by omega)
          have lw := (SI.send (data := ⟨#[109]⟩) h.v hfv.1.1 hfv.1.2 (by decide) (cop f) (by omega)).l
          obtain ⟨m2, em, hm1, hm2⟩ := due_loop (d := d2) h h14 fd fc (d.L, d.At, w.Now, w.Order, w.Items, m, total, got, (i : Int)) rfl
          rw [ed1, e2]
          simp only [Option.bind_some]
          rw [ew, sw]
          simp only [Option.bind_some, bne_self_eq_false, Bool.false_eq_true, if_false]
          rw [em]
          simp only [Option.bind_some]
          have hC : CI i ⟨w.Now, w.Order + 1, sendL (w.Now + 1 + f.Delay) w.Order ⟨#[109]⟩ (cop f) w.Items⟩ m2 (total + (cop f : Int)) got (i + 1) := by
            refine ⟨vw, hn, by simp only; omega, by simp only; omega, fun k hk => ?_, by omega, by simp only; omega, by omega, fun y hy => ?_⟩
            · simp only
              rw [cnt_send, hm2, h.d k hk, hn]
            · simp only at hy
              have key : ∀ n : Nat, n ≤ 3 → ∀ z ∈ sendL (w.Now + 1 + f.Delay) w.Order ⟨#[109]⟩ n w.Items, z.At ≤ 21 := by
                intro n
                induction n with
                | zero => exact fun _ => h.a
                | succ n ih =>
                  intro hn3 z hz
                  simp only [sendL] at hz
                  rcases putL_mem.1 hz with rfl | hz
                  · simp only; omega
                  · exact ih (by omega) z hz
              exact key (cop f) hcop y hy
          obtain ⟨w2, g2, hC2, e⟩ := c_tick hC (by omega) (by omega) d2.L d2.At (d.L, d.At, w.Now, w.Order, w.Items, m, total, got, (i : Int)) rfl rfl
          exact ⟨(d2, w2, m2, total + (cop f : Int), g2), e, hd2, hC2⟩
      · rw [if_neg (by simp; omega)]
        simp only [Option.bind_some, Bool.false_eq_true, if_false]
        exact plain d hd) (fun s ⟨hd, h⟩ => by
      obtain ⟨d, w, m, total, got⟩ := s
      simp only at hd h
      have ew : (⟨w.Now, w.Order, w.Items⟩ : Wire) = w := rfl
      have hI : w.Items = [] := by
        cases hI : w.Items with
        | nil => rfl
        | cons x l =>
          have h1 := (h.v.i x (by rw [hI]; simp)).a
          have h2 := h.a x (by rw [hI]; simp)
          have h3 := h.n
          omega
      have htg := h.tg
      rw [hI] at htg
      obtain ⟨c, e1, _, hc⟩ := valid_spec w
      have := hc.2 h.v
      subst this
      unfold law09_LinkCounts_l7
      simp only
      rw [if_neg (by simp), ew]
      have eD : link_Drain w = some ([], 0) := by
        unfold link_Drain
        rw [e1, hI]
        simp only [Option.bind_some, Bool.not_true, Bool.false_eq_true, if_false]
        rw [clone_wire (by simp)]
        rfl
      rw [eD, wsane_true]
      have : (got == total) = true := by rw [beq_iff_eq]; simp at htg; omega
      refine ⟨true, ?_, rfl⟩
      simp [this]) (⟨t, 0⟩, ⟨0, 0, []⟩, ⟨0, fun _ => 0⟩, 0, 0) ⟨DOK.roll hl, WV.zero, rfl, by simp, by simp, fun k _ => rfl, by simp, by simp, by simp, fun x hx => (by cases hx)⟩
  exact e

end Go.Proofs.Ytljdiobhmenjgaa.Sh

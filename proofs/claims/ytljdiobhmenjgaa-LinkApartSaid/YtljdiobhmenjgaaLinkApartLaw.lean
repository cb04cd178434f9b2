/- LinkApart: the law returns true at every input (chapter 9). -/
import Derived.Test.YtljdiobhmenjgaaWire3
namespace Go.Proofs.Ytljdiobhmenjgaa.Sh
open Go
set_option linter.unusedVariables false
set_option linter.unusedSimpArgs false

/-- messages by when they arrive and what they say -/
abbrev MP := Int × ByteArray
def pr (l : List Transit) : List MP := l.map fun x => (x.At, x.Data)
def putP (m : MP) (l : List MP) : List MP := l.filter (fun x => decide (x.1 ≤ m.1)) ++ m :: l.filter (fun x => decide (m.1 < x.1))
def sendP (base : Int) (data : ByteArray) : Nat → List MP → List MP
  | 0, l => l
  | n + 1, l => putP (base + n, data) (sendP base data n l)
theorem pr_put (m : Transit) (l : List Transit) : pr (putL m l) = putP (m.At, m.Data) (pr l) := by
  unfold pr putL putP
  rw [List.map_append, List.map_cons, List.filter_map, List.filter_map]
  rfl
theorem pr_send (base o : Int) (data : ByteArray) : ∀ n l, pr (sendL base o data n l) = sendP base data n (pr l)
  | 0, l => rfl
  | n + 1, l => by simp only [sendL, sendP]; rw [pr_put, pr_send base o data n l]
/-- in the order of their arrival -/
def SP (l : List MP) : Prop := l.Pairwise fun x y => x.1 ≤ y.1
theorem pr_sorted {l : List Transit} (h : l.Pairwise tlt) : SP (pr l) := by
  unfold SP pr
  rw [List.pairwise_map]
  exact h.imp fun q => by unfold tlt at q; simp only; omega
theorem split_sorted {l : List MP} (h : SP l) (t : Int) : l.filter (fun x => decide (x.1 ≤ t)) ++ l.filter (fun x => decide (t < x.1)) = l := by
  unfold SP at h
  induction l with
  | nil => rfl
  | cons x l ih =>
    obtain ⟨h1, h2⟩ := List.pairwise_cons.1 h
    by_cases hx : x.1 ≤ t
    · have hx2 : ¬ t < x.1 := by omega
      rw [List.filter_cons, List.filter_cons, if_pos (decide_eq_true hx), if_neg (by simpa using hx), List.cons_append, ih h2]
    · have hx2 : t < x.1 := by omega
      have e1 : (x :: l).filter (fun x => decide (x.1 ≤ t)) = [] := List.filter_eq_nil_iff.2 (fun y hy => by
        rcases List.mem_cons.1 hy with rfl | hy
        · simp; omega
        · have := h1 y hy; simp; omega)
      have e2 : (x :: l).filter (fun x => decide (t < x.1)) = x :: l := List.filter_eq_self.2 (fun y hy => by
        rcases List.mem_cons.1 hy with rfl | hy
        · exact decide_eq_true hx2
        · have := h1 y hy; exact decide_eq_true (by omega))
      rw [e1, e2]; rfl
theorem put_sorted {m : MP} {l : List MP} (h : SP l) : SP (putP m l) := by
  unfold SP putP at *
  refine List.pairwise_append.2 ⟨h.filter _, List.pairwise_cons.2 ⟨fun x hx => ?_, h.filter _⟩, fun x hx y hy => ?_⟩
  · have := of_decide_eq_true (List.mem_filter.1 hx).2; omega
  · have h1 := of_decide_eq_true (List.mem_filter.1 hx).2
    rcases List.mem_cons.1 hy with rfl | hy
    · exact h1
    · have := of_decide_eq_true (List.mem_filter.1 hy).2; omega
theorem send_sorted {base : Int} {data : ByteArray} {l : List MP} (h : SP l) : ∀ n, SP (sendP base data n l)
  | 0 => h
  | n + 1 => put_sorted (send_sorted h n)
theorem filter_comm {α : Type} (p q : α → Bool) (l : List α) : (l.filter p).filter q = (l.filter q).filter p := by
  rw [List.filter_filter, List.filter_filter]
  congr 1
  funext x
  exact Bool.and_comm _ _
theorem put_yes (q : MP → Bool) (m : MP) (l : List MP) (hm : q m = true) : (putP m l).filter q = putP m (l.filter q) := by
  unfold putP
  rw [List.filter_append, List.filter_cons, if_pos hm, filter_comm, filter_comm _ q]
theorem put_no (q : MP → Bool) (m : MP) {l : List MP} (hs : SP l) (hm : q m = false) : (putP m l).filter q = l.filter q := by
  unfold putP
  rw [List.filter_append, List.filter_cons, if_neg (by simp [hm]), ← List.filter_append, split_sorted hs]
theorem send_yes (q : MP → Bool) (base : Int) (data : ByteArray) (l : List MP) (hm : ∀ t, q (t, data) = true) : ∀ n, (sendP base data n l).filter q = sendP base data n (l.filter q)
  | 0 => rfl
  | n + 1 => by simp only [sendP]; rw [put_yes q _ _ (hm _), send_yes q base data l hm n]
theorem send_no (q : MP → Bool) (base : Int) (data : ByteArray) {l : List MP} (hs : SP l) (hm : ∀ t, q (t, data) = false) : ∀ n, (sendP base data n l).filter q = l.filter q
  | 0 => rfl
  | n + 1 => by simp only [sendP]; rw [put_no q _ (send_sorted hs n) (hm _), send_no q base data hs hm n]

/-- whose message it is -/
def isA (d : ByteArray) : Bool := byteAt d 0 == some 97
def qA (x : MP) : Bool := isA x.2
def qB (x : MP) : Bool := !isA x.2
theorem due_pr (t : Int) (l : List Transit) : (dueL t l).map (·.Data) = ((pr l).filter (fun x => x.1 == t)).map (·.2) := by
  unfold dueL pr
  rw [List.filter_map, List.map_map]
  rfl
theorem rest_pr (t : Int) (l : List Transit) : pr (restL t l) = (pr l).filter (fun x => !(x.1 == t)) := by
  unfold restL pr
  rw [List.filter_map]
  rfl
theorem due_q {t : Int} {a w : List Transit} (q : ByteArray → Bool) (h : pr a = (pr w).filter (fun x => q x.2)) : (dueL t a).map (·.Data) = ((dueL t w).map (·.Data)).filter q := by
  rw [due_pr, due_pr, h, filter_comm, List.filter_map]
  rfl
theorem rest_q {t : Int} {a w : List Transit} (q : ByteArray → Bool) (h : pr a = (pr w).filter (fun x => q x.2)) : pr (restL t a) = (pr (restL t w)).filter (fun x => q x.2) := by
  rw [rest_pr, rest_pr, h, filter_comm]

/-- one wire with all messages, and one for each of two -/
structure AP (i k : Nat) (w a b : Wire) : Prop where
  vw : WV w
  va : WV a
  vb : WV b
  nw : w.Now = (i : Int)
  na : a.Now = (i : Int)
  nb : b.Now = (i : Int)
  o : w.Order ≤ k ∧ a.Order ≤ k ∧ b.Order ≤ k
  pa : pr a.Items = (pr w.Items).filter qA
  pb : pr b.Items = (pr w.Items).filter qB
  l : w.Items.length ≤ 3 * k ∧ a.Items.length ≤ 3 * k ∧ b.Items.length ≤ 3 * k
  dd : ∀ x ∈ w.Items, (byteAt x.Data 0).isSome = true
theorem AP.wide {i k k' : Nat} {w a b : Wire} (h : AP i k w a b) (hk : k ≤ k') : AP i k' w a b := by
  have h1 := h.o
  have h2 := h.l
  exact ⟨h.vw, h.va, h.vb, h.nw, h.na, h.nb, by omega, h.pa, h.pb, by omega, h.dd⟩

theorem ap_inner {i : Nat} {w a b : Wire} (sv : List Int × Int × Int × Int × List Transit × Int × Int × List Transit × Int × Int × List Transit × Int) (hsv : sv.2.2.2.2.2.2.2.2.2.2.2 = (i : Int)) (hi : i ≤ 100) (L : List Int) (A : Int) (x1 : Wire × List ByteArray × Int) (xa xb : Wire × List ByteArray × Int)
    (h1 : WV x1.1) (hd : ∀ m ∈ x1.2.1, (byteAt m 0).isSome = true) (hl : x1.2.1.length ≤ 100000) (ha : xa.2.1 = x1.2.1.filter isA) (hb : xb.2.1 = x1.2.1.filter (fun d => !isA d)) :
    whileM (law09_LinkApart_l11 sv L A x1 xa xb) (xa.2.1, xb.2.1, 0) = some (.inl (L, A, x1.1.Now, x1.1.Order, x1.1.Items, xa.1.Now, xa.1.Order, xa.1.Items, xb.1.Now, xb.1.Order, xb.1.Items, ((i + 1 : Nat) : Int))) := by
  obtain ⟨w1, l, e1⟩ := x1
  simp only at h1 hd hl ha hb
  obtain ⟨r, er, rfl⟩ := loop_fold (body := law09_LinkApart_l11 sv L A (w1, l, e1) xa xb) (fun (s : List ByteArray × List ByteArray) j => (s.1, s.2, j)) l.length
    (fun j s => s.1 = (l.drop j).filter isA ∧ s.2 = (l.drop j).filter (fun d => !isA d)) (fun r => r = .inl (L, A, w1.Now, w1.Order, w1.Items, xa.1.Now, xa.1.Order, xa.1.Items, xb.1.Now, xb.1.Order, xb.1.Items, ((i + 1 : Nat) : Int))) (fun j hj s ⟨g1, g2⟩ => by
      obtain ⟨p, q⟩ := s
      simp only at g1 g2
      have hm := hd _ (List.getElem_mem hj)
      obtain ⟨c, hc⟩ := Option.isSome_iff_exists.1 hm
      rw [List.drop_eq_getElem_cons hj, List.filter_cons] at g1 g2
      unfold law09_LinkApart_l11 law09_LinkApart_j2
      simp only
      rw [if_pos (decide_eq_true (by omega)), ix_nat _ _ hj]
      simp only [Option.bind_some]
      rw [hc, w64_n (by omega)]
      simp only [Option.bind_some]
      have hlen : ∀ (f : ByteArray → Bool), ((l.drop (j + 1)).filter f).length ≤ 100000 := fun f => Nat.le_trans (List.length_filter_le _ _) (by rw [List.length_drop]; omega)
      by_cases hA : c = 97
      · have hAt : isA l[j] = true := by unfold isA; rw [hc, hA]; rfl
        rw [if_pos hAt] at g1
        rw [if_neg (by simp [hAt])] at g2
        have hp0 : ((p.length : Int) == 0) = false := beq_eq_false_iff_ne.2 (by rw [g1]; simp; omega)
        have hp1 : ix p 0 = some l[j] := by rw [g1]; rfl
        have hp2 : subM p 1 (p.length : Int) = some ((l.drop (j + 1)).filter isA) := by
          have := sub_at p 1 p.length (by rw [g1]; simp) (Nat.le_refl _)
          rw [List.take_of_length_le (Nat.le_refl _)] at this
          rw [show (1 : Int) = ((1 : Nat) : Int) from rfl, this, g1]
          rfl
        rw [if_pos (by simp [hA]), hp0]
        simp only [Bool.false_eq_true, if_false]
        rw [hp1]
        simp only [Option.bind_some, beq_self_eq_true, Bool.not_true, Bool.false_eq_true, if_false]
        rw [hp2]
        exact ⟨(_, q), rfl, rfl, g2⟩
      · have hAt : isA l[j] = false := by unfold isA; rw [hc]; simpa using hA
        rw [if_neg (by simp [hAt])] at g1
        rw [if_pos (by simp [hAt])] at g2
        have hp0 : ((q.length : Int) == 0) = false := beq_eq_false_iff_ne.2 (by rw [g2]; simp; omega)
        have hp1 : ix q 0 = some l[j] := by rw [g2]; rfl
        have hp2 : subM q 1 (q.length : Int) = some ((l.drop (j + 1)).filter (fun d => !isA d)) := by
          have := sub_at q 1 q.length (by rw [g2]; simp) (Nat.le_refl _)
          rw [List.take_of_length_le (Nat.le_refl _)] at this
          rw [show (1 : Int) = ((1 : Nat) : Int) from rfl, this, g2]
          rfl
        rw [if_neg (by simp [hA]), hp0]
        simp only [Bool.false_eq_true, if_false]
        rw [hp1]
        simp only [Option.bind_some, beq_self_eq_true, Bool.not_true, Bool.false_eq_true, if_false]
        rw [hp2]
        exact ⟨(p, _), rfl, g1, rfl⟩) (fun s ⟨g1, g2⟩ => by
      rw [List.drop_eq_nil_of_le (Nat.le_refl _)] at g1 g2
      obtain ⟨c, e2, e3, hc⟩ := valid_spec w1
      have := hc.2 h1
      subst this
      unfold law09_LinkApart_l11
      simp only
      rw [if_neg (by simp), g1, g2, e3, hsv, w64_n (by omega)]
      exact ⟨_, rfl, rfl⟩) (xa.2.1, xb.2.1) ⟨by rw [ha]; rfl, by rw [hb]; rfl⟩
  exact er

theorem ap_tick {i k : Nat} {w a b : Wire} (h : AP i k w a b) (hi : i ≤ 100) (hk : k ≤ 100) (sv : List Int × Int × Int × Int × List Transit × Int × Int × List Transit × Int × Int × List Transit × Int) (hsv : sv.2.2.2.2.2.2.2.2.2.2.2 = (i : Int)) (L : List Int) (A : Int) :
    ∃ w2 a2 b2, AP (i + 1) k w2 a2 b2 ∧ law09_LinkApart_j1 sv L A w.Now w.Order w.Items a.Now a.Order a.Items b.Now b.Order b.Items = some (.inl (L, A, w2.Now, w2.Order, w2.Items, a2.Now, a2.Order, a2.Items, b2.Now, b2.Order, b2.Items, ((i + 1 : Nat) : Int))) := by
  have ew : (⟨w.Now, w.Order, w.Items⟩ : Wire) = w := rfl
  have ea : (⟨a.Now, a.Order, a.Items⟩ : Wire) = a := rfl
  have eb : (⟨b.Now, b.Order, b.Items⟩ : Wire) = b := rfl
  have hnw := h.nw
  have hna := h.na
  have hnb := h.nb
  have hl := h.l
  have ho := h.o
  have t1 := (tick_spec h.vw (by omega)).1
  have t2 := (tick_spec h.va (by omega)).1
  have t3 := (tick_spec h.vb (by omega)).1
  rw [hnw] at t1
  rw [hna] at t2
  rw [hnb] at t3
  have v1 := rest_wv h.vw (by omega)
  have v2 := rest_wv h.va (by omega)
  have v3 := rest_wv h.vb (by omega)
  rw [hnw] at v1
  rw [hna] at v2
  rw [hnb] at v3
  refine ⟨_, _, _, ⟨v1, v2, v3, by simp, by simp, by simp, by simp only; omega, rest_q isA h.pa, rest_q (fun d => !isA d) h.pb, ?_, fun x hx => h.dd x (List.mem_filter.1 hx).1⟩, ?_⟩
  · simp only
    refine ⟨Nat.le_trans (List.length_filter_le _ _) (by omega), Nat.le_trans (List.length_filter_le _ _) (by omega), Nat.le_trans (List.length_filter_le _ _) (by omega)⟩
  · unfold law09_LinkApart_j1
    rw [ew, ea, eb, t1, t2, t3]
    simp only [Option.bind_some, bne_self_eq_false, Bool.or_self, Bool.false_eq_true, if_false]
    have := ap_inner (i := i) (w := w) (a := a) (b := b) sv hsv hi L A (⟨(i : Int) + 1, w.Order, restL ((i : Int) + 1) w.Items⟩, (dueL ((i : Int) + 1) w.Items).map (·.Data), 0) (⟨(i : Int) + 1, a.Order, restL ((i : Int) + 1) a.Items⟩, (dueL ((i : Int) + 1) a.Items).map (·.Data), 0) (⟨(i : Int) + 1, b.Order, restL ((i : Int) + 1) b.Items⟩, (dueL ((i : Int) + 1) b.Items).map (·.Data), 0)
      v1 (fun m hm => by
        obtain ⟨x, hx, rfl⟩ := List.mem_map.1 hm
        exact h.dd x (List.mem_filter.1 hx).1) (by
        simp only [List.length_map]
        exact Nat.le_trans (List.length_filter_le _ _) (by omega)) (due_q isA h.pa) (due_q (fun d => !isA d) h.pb)
    exact this

theorem send_len {w : Wire} {f : Fault} {data : ByteArray} (hv : WV w) (hf : FV f) (hd : (data.size : Int) ≤ 4096) (hc : cop f ≤ 3) : (sendL (w.Now + 1 + f.Delay) w.Order data (cop f) w.Items).length = w.Items.length + cop f :=
  (SI.send hv hf.1.1 hf.1.2 hd (cop f) (by omega)).l
theorem sendL_data {base o : Int} {data : ByteArray} {P : Transit → Prop} {l : List Transit} (hl : ∀ x ∈ l, P x) (hp : ∀ t, P ⟨t, o, data⟩) : ∀ n, ∀ x ∈ sendL base o data n l, P x
  | 0 => hl
  | n + 1 => fun x hx => by
    simp only [sendL] at hx
    rcases putL_mem.1 hx with rfl | hx
    · exact hp _
    · exact sendL_data hl hp n x hx

theorem law09_LinkApart_true (t : List Int) (_ : (t.length : Int) ≤ 140737488355328 ∧ ∀ x ∈ t, -9223372036854775808 ≤ x ∧ x ≤ 9223372036854775807) : law09_LinkApart t = some true := by
  unfold law09_LinkApart
  rw [light_spec]
  simp only [Option.bind_some]
  by_cases hl : t.length ≤ 500
  case neg => rw [decide_eq_false hl, wsane_true]; rfl
  rw [decide_eq_true hl]
  have e0 : link_New = some ⟨0, 0, []⟩ := rfl
  simp only [Bool.not_true, Bool.false_eq_true, if_false, made_Roll, e0, Option.bind_some]
  obtain ⟨_, e, rfl⟩ := loop_fold (body := law09_LinkApart_l7) (fun (s : Dice × Wire × Wire × Wire) i => (s.1.L, s.1.At, s.2.1.Now, s.2.1.Order, s.2.1.Items, s.2.2.1.Now, s.2.2.1.Order, s.2.2.1.Items, s.2.2.2.Now, s.2.2.2.Order, s.2.2.2.Items, i)) 16
    (fun i s => DOK s.1 ∧ AP i i s.2.1 s.2.2.1 s.2.2.2) (fun x => x = true) (fun i hi s ⟨hd, h⟩ => by
      obtain ⟨d, w, a, b⟩ := s
      simp only at hd h
      have ed : (⟨d.L, d.At⟩ : Dice) = d := rfl
      have ew : (⟨w.Now, w.Order, w.Items⟩ : Wire) = w := rfl
      have ea : (⟨a.Now, a.Order, a.Items⟩ : Wire) = a := rfl
      have eb : (⟨b.Now, b.Order, b.Items⟩ : Wire) = b := rfl
      unfold law09_LinkApart_l7
      simp only
      rw [if_pos (by simp; omega)]
      by_cases h9 : i < 9
      · obtain ⟨f, d1, e1, fd, fc, hd1⟩ := dfault hd
        obtain ⟨x, d2, e2, x0, x1, hd2⟩ := next_spec hd1 (n := 4) (by decide) (by decide)
        have hix : ∃ m : ByteArray, ix ([(⟨#[97, 49]⟩ : ByteArray), (⟨#[97, 50]⟩ : ByteArray), (⟨#[98, 49]⟩ : ByteArray), (⟨#[98, 50]⟩ : ByteArray)] : List ByteArray) x = some m ∧ (m.size : Int) ≤ 4096 ∧ (byteAt m 0 = some 97 ∨ byteAt m 0 = some 98) := by
          have : x = 0 ∨ x = 1 ∨ x = 2 ∨ x = 3 := by omega
          rcases this with rfl | rfl | rfl | rfl
          · exact ⟨_, rfl, by decide, .inl rfl⟩
          · exact ⟨_, rfl, by decide, .inl rfl⟩
          · exact ⟨_, rfl, by decide, .inr rfl⟩
          · exact ⟨_, rfl, by decide, .inr rfl⟩
        obtain ⟨m, em, hm, hby⟩ := hix
        have hcop : cop f ≤ 3 := by unfold cop; split <;> omega
        have hfv : FV f := ⟨by omega, by omega⟩
        have hll := h.l
        have hoo := h.o
        have hsome : (byteAt m 0).isSome = true := by rcases hby with q | q <;> rw [q] <;> rfl
        obtain ⟨sw, _, vw⟩ := send_spec (data := m) h.vw hfv hm (by omega) (by omega)
        have lw := send_len h.vw hfv hm hcop
        have dw := sendL_data (base := w.Now + 1 + f.Delay) (o := w.Order) (data := m) h.dd (fun _ => hsome) (cop f)
        rw [if_pos (decide_eq_true (by omega)), ed, e1]
        simp only [Option.bind_some]
        rw [e2]
        simp only [Option.bind_some]
        rw [em]
        simp only [Option.bind_some]
        rw [ew, sw]
        simp only [Option.bind_some]
        have hsorted := pr_sorted h.vw.s
        have hnw := h.nw
        have hna := h.na
        have hnb := h.nb
        rcases hby with hA | hB
        · obtain ⟨sa, _, va⟩ := send_spec (data := m) h.va hfv hm (by omega) (by omega)
          have la := send_len h.va hfv hm hcop
          have hq : isA m = true := by unfold isA; rw [hA]; rfl
          have hap : AP i (i + 1) ⟨w.Now, w.Order + 1, sendL (w.Now + 1 + f.Delay) w.Order m (cop f) w.Items⟩ ⟨a.Now, a.Order + 1, sendL (a.Now + 1 + f.Delay) a.Order m (cop f) a.Items⟩ b := by
            refine ⟨vw, va, h.vb, hnw, hna, hnb, by simp only; omega, ?_, ?_, by simp only; omega, dw⟩
            · simp only
              rw [pr_send, pr_send, send_yes qA _ m _ (fun t => hq), ← h.pa, hnw, hna]
            · simp only
              rw [pr_send, send_no qB _ m hsorted (fun t => by unfold qB; simp only; rw [hq]; rfl), h.pb]
          rw [hA]
          simp only [Option.bind_some]
          rw [if_pos (by decide), ea, sa]
          simp only [Option.bind_some, law09_LinkApart_j4, bne_self_eq_false, Bool.or_self, Bool.false_eq_true, if_false]
          obtain ⟨w2, a2, b2, hA2, e⟩ := ap_tick hap (by omega) (by omega) (d.L, d.At, w.Now, w.Order, w.Items, a.Now, a.Order, a.Items, b.Now, b.Order, b.Items, (i : Int)) rfl d2.L d2.At
          exact ⟨(d2, w2, a2, b2), e, hd2, hA2⟩
        · obtain ⟨sb, _, vb⟩ := send_spec (data := m) h.vb hfv hm (by omega) (by omega)
          have lb := send_len h.vb hfv hm hcop
          have hq : isA m = false := by unfold isA; rw [hB]; rfl
          have hap : AP i (i + 1) ⟨w.Now, w.Order + 1, sendL (w.Now + 1 + f.Delay) w.Order m (cop f) w.Items⟩ a ⟨b.Now, b.Order + 1, sendL (b.Now + 1 + f.Delay) b.Order m (cop f) b.Items⟩ := by
            refine ⟨vw, h.va, vb, hnw, hna, hnb, by simp only; omega, ?_, ?_, by simp only; omega, dw⟩
            · simp only
              rw [pr_send, send_no qA _ m hsorted (fun t => hq), h.pa]
            · simp only
              rw [pr_send, pr_send, send_yes qB _ m _ (fun t => by unfold qB; simp only; rw [hq]; rfl), ← h.pb, hnw, hnb]
          rw [hB]
          simp only [Option.bind_some]
          rw [if_neg (by decide), eb, sb]
          simp only [Option.bind_some, law09_LinkApart_j4, bne_self_eq_false, Bool.or_self, Bool.false_eq_true, if_false]
          obtain ⟨w2, a2, b2, hA2, e⟩ := ap_tick hap (by omega) (by omega) (d.L, d.At, w.Now, w.Order, w.Items, a.Now, a.Order, a.Items, b.Now, b.Order, b.Items, (i : Int)) rfl d2.L d2.At
          exact ⟨(d2, w2, a2, b2), e, hd2, hA2⟩
      · rw [if_neg (by simp; omega)]
        obtain ⟨w2, a2, b2, hA, e⟩ := ap_tick (h.wide (Nat.le_succ i)) (by omega) (by omega) (d.L, d.At, w.Now, w.Order, w.Items, a.Now, a.Order, a.Items, b.Now, b.Order, b.Items, (i : Int)) rfl d.L d.At
        exact ⟨(d, w2, a2, b2), e, hd, hA⟩) (fun s h => by
      unfold law09_LinkApart_l7
      simp only
      rw [if_neg (by simp), wsane_true]
      exact ⟨true, rfl, rfl⟩) (⟨t, 0⟩, ⟨0, 0, []⟩, ⟨0, 0, []⟩, ⟨0, 0, []⟩) ⟨DOK.roll hl, WV.zero, WV.zero, WV.zero, rfl, rfl, rfl, by simp, rfl, rfl, by simp, fun x hx => (by cases hx)⟩
  exact e

end Go.Proofs.Ytljdiobhmenjgaa.Sh

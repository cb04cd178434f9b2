/- Sending a message: where it comes to lie, in code and reference (chapter 9). -/
import Derived.Test.YtljdiobhmenjgaaWire
namespace Go.Proofs.Ytljdiobhmenjgaa.Sh
open Go
set_option linter.unusedVariables false
set_option linter.unusedSimpArgs false

theorem half_eq {s : Int} (h0 : 0 ≤ s) (h1 : s ≤ 9223372036854775807) : shrM .u64 (IntKind.u64.wrap (w64 s)) 1 = some (s / 2) := by
  rw [w64_id (by omega) (by omega), u64_id h0 h1]
  unfold shrM
  rw [if_neg (by decide)]
  have : (2 : Int) ^ min (1 : Int).toNat IntKind.u64.bits = 2 := by decide
  rw [this, Int.fdiv_eq_ediv_of_nonneg _ (by decide)]

/-- the first message that is not before one -/
theorem bs_spec (p : Nat → Bool) (xs : List Transit) (m : Transit) (hn : xs.length ≤ 1000000) (hc : ∀ i (hi : i < xs.length), ∃ v, link_order xs[i] m = some v ∧ (v < 0 ↔ p i = true)) (hm : ∀ i j, i ≤ j → j < xs.length → p j = true → p i = true) :
    ∃ (k : Nat) (c : Bool), slices_BinarySearchFunc_Lapi_Transit_api_Transit_api_Transit xs m link_order = some ((k : Int), c) ∧ k ≤ xs.length ∧ (∀ i, i < k → p i = true) ∧ (∀ i, k ≤ i → i < xs.length → p i = false) := by
  unfold slices_BinarySearchFunc_Lapi_Transit_api_Transit_api_Transit
  simp only [Option.bind_some]
  obtain ⟨e, ee, k, rfl, h1, h2, h3⟩ := loop_ex (b1 := slices_BinarySearchFunc_Lapi_Transit_api_Transit_api_Transit_l1 xs m link_order)
    (fun n s => ∃ a b : Nat, s = ((a : Int), (b : Int)) ∧ n = b - a ∧ a ≤ b ∧ b ≤ xs.length ∧ (∀ i, i < a → p i = true) ∧ (∀ i, b ≤ i → i < xs.length → p i = false))
    (fun e => ∃ k : Nat, e = (k : Int) ∧ k ≤ xs.length ∧ (∀ i, i < k → p i = true) ∧ (∀ i, k ≤ i → i < xs.length → p i = false)) (by
      rintro n s ⟨a, b, rfl, rfl, hab, hb, h1, h2⟩
      unfold slices_BinarySearchFunc_Lapi_Transit_api_Transit_api_Transit_l1
      simp only
      by_cases h : a < b
      · left
        rw [if_pos (decide_eq_true (by omega)), half_eq (by omega) (by omega)]
        simp only [Option.bind_some]
        obtain ⟨h', hmd⟩ : ∃ h' : Nat, ((a : Int) + b) / 2 = h' := ⟨_, (Int.toNat_of_nonneg (by omega)).symm⟩
        have hl : h' < xs.length := by omega
        rw [hmd, w64_id (x := (h' : Int)) (by omega) (by omega), ix_nat _ _ hl]
        simp only [Option.bind_some]
        obtain ⟨v, ev, hv⟩ := hc h' hl
        rw [ev]
        simp only [Option.bind_some, slices_BinarySearchFunc_Lapi_Transit_api_Transit_api_Transit_j1]
        by_cases hv0 : v < 0
        · rw [if_pos (decide_eq_true hv0), w64_n (n := h') (by omega)]
          exact ⟨_, b - (h' + 1), rfl, ⟨h' + 1, b, rfl, rfl, by omega, hb, fun i hi => hm i h' (by omega) hl (hv.1 hv0), h2⟩, by omega⟩
        · rw [if_neg (by simpa using hv0)]
          refine ⟨_, h' - a, rfl, ⟨a, h', rfl, rfl, by omega, by omega, h1, fun i hi hin => ?_⟩, by omega⟩
          cases hq : p i with
          | false => rfl
          | true => exact absurd (hv.2 (hm h' i hi hin hq)) hv0
      · right
        rw [if_neg (by simpa using h)]
        have : a = b := by omega
        subst this
        exact ⟨_, rfl, a, rfl, hb, h1, h2⟩) xs.length ((0 : Nat), (xs.length : Int)) ⟨0, xs.length, rfl, rfl, by omega, Nat.le_refl _, fun i hi => by omega, fun i h1 h2 => by omega⟩
  rw [show (0 : Int) = ((0 : Nat) : Int) from rfl, ee]
  simp only [Option.bind_some]
  by_cases hk : k < xs.length
  · obtain ⟨v, ev, _⟩ := hc k hk
    rw [if_pos (decide_eq_true (by omega)), ix_nat _ _ hk]
    simp only [Option.bind_some]
    rw [ev]
    exact ⟨k, _, rfl, h1, h2, h3⟩
  · rw [if_neg (by simpa using hk)]
    exact ⟨k, _, rfl, h1, h2, h3⟩

/-- one element put in -/
theorem insert_spec (s : List Transit) (m : Transit) {k : Nat} (hk : k ≤ s.length) (hl : s.length ≤ 100000) : slices_Insert_Lapi_Transit_api_Transit s (k : Int) [m] = some (s.take k ++ m :: s.drop k, [m]) := by
  unfold slices_Insert_Lapi_Transit_api_Transit
  have g0 : subM s (k : Int) (s.length : Int) = some (s.drop k) := by rw [sub_at _ _ _ hk (Nat.le_refl _), List.take_of_length_le (Nat.le_refl _)]
  rw [g0]
  simp only [Option.bind_some, List.length_singleton]
  rw [if_neg (by decide)]
  by_cases he : k = s.length
  · rw [if_pos (by simp [he]), appM_one _ _ _ (by simp; omega) (by decide)]
    subst he
    simp
  · rw [if_neg (by simp; omega)]
    have g1 : subM s 0 (k : Int) = some (s.take k) := by
      have := sub_at s 0 k (Nat.zero_le _) hk
      simpa using this
    have e1 : w64 ((s.length : Int) + (1 : Nat)) = ((s.length + 1 : Nat) : Int) := by rw [w64_id (by omega) (by omega)]; rfl
    have e2 : w64 (((s.length + 1 : Nat) : Int) - (k : Int)) = ((s.length + 1 - k : Nat) : Int) := w64_nat (by omega) (by omega)
    have e3 : w64 ((k : Int) + (1 : Nat)) = ((k + 1 : Nat) : Int) := by rw [w64_id (by omega) (by omega)]; rfl
    rw [g1, e1, e2, e3]
    simp only [Option.bind_some]
    have g2 : ∀ z : Transit, appZ 32 z (s.take k) ((s.length + 1 - k : Nat) : Int) = some (s.take k ++ List.replicate (s.length + 1 - k) z) := fun z => by
      unfold appZ
      rw [if_pos (by rw [List.length_take]; refine ⟨by omega, by omega, by omega⟩), Int.toNat_natCast]
    rw [g2]
    simp only [Option.bind_some]
    have htl : (s.take k).length = k := by rw [List.length_take]; omega
    generalize hX : s.take k ++ List.replicate (s.length + 1 - k) (⟨0, 0, ByteArray.empty⟩ : Transit) = X
    have hXl : X.length = s.length + 1 := by rw [← hX, List.length_append, List.length_replicate, htl]; omega
    rw [sub_at X k X.length (by omega) (Nat.le_refl _)]
    simp only [Option.bind_some]
    have hc1 : copyM X (k : Int) (X.length : Int) [m] = s.take k ++ [m] ++ X.drop (k + 1) := by
      unfold copyM
      simp only [Int.toNat_natCast, List.length_singleton]
      have q1 : min 1 (X.length - k) = 1 := by omega
      have q2 : X.take k = s.take k := by rw [← hX, List.take_left' htl]
      rw [q1, q2, List.take_of_length_le (show [m].length ≤ X.length - k by simp; omega)]
    rw [hc1]
    generalize hY : s.take k ++ [m] ++ X.drop (k + 1) = Y
    have hYl : Y.length = s.length + 1 := by rw [← hY, List.length_append, List.length_append, htl, List.length_drop, List.length_singleton]; omega
    rw [sub_at Y (k + 1) Y.length (by omega) (Nat.le_refl _)]
    simp only [Option.bind_some]
    have hA : (s.take k ++ [m]).length = k + 1 := by rw [List.length_append, htl]; rfl
    have hc2 : copyM Y ((k + 1 : Nat) : Int) (Y.length : Int) (s.drop k) = s.take k ++ m :: s.drop k := by
      unfold copyM
      simp only [Int.toNat_natCast]
      have q1 : Y.take (k + 1) = s.take k ++ [m] := by rw [← hY, List.take_left' hA]
      have q2 : (s.drop k).take (Y.length - (k + 1)) = s.drop k := List.take_of_length_le (by rw [List.length_drop]; omega)
      have q3 : Y.drop (k + 1 + min (s.drop k).length (Y.length - (k + 1))) = [] := List.drop_eq_nil_of_le (by rw [List.length_drop]; omega)
      rw [q1, q2, q3, List.append_nil, List.append_assoc]
      rfl
    rw [hc2]

/-- a message behind all that arrive no later -/
def putL (m : Transit) (l : List Transit) : List Transit := l.filter (fun x => decide (x.At ≤ m.At)) ++ m :: l.filter (fun x => decide (m.At < x.At))
theorem putL_len (m : Transit) (l : List Transit) : (putL m l).length = l.length + 1 := by
  unfold putL
  rw [List.length_append, List.length_cons]
  have : (l.filter (fun x => decide (x.At ≤ m.At))).length + (l.filter (fun x => decide (m.At < x.At))).length = l.length := by
    induction l with
    | nil => rfl
    | cons x l ih =>
      simp only [List.filter_cons]
      by_cases h : x.At ≤ m.At
      · have h2 : ¬ m.At < x.At := by omega
        simp only [h, h2, decide_true, decide_false, if_true, Bool.false_eq_true, if_false, List.length_cons]; omega
      · have h2 : m.At < x.At := by omega
        simp only [h, h2, decide_true, decide_false, if_true, Bool.false_eq_true, if_false, List.length_cons]; omega
  omega
theorem putL_mem {m x : Transit} {l : List Transit} : x ∈ putL m l ↔ x = m ∨ x ∈ l := by
  unfold putL
  simp only [List.mem_append, List.mem_cons, List.mem_filter, decide_eq_true_eq]
  constructor
  · rintro (h | h | h)
    · exact .inr h.1
    · exact .inl h
    · exact .inr h.1
  · rintro (h | h)
    · exact .inr (.inl h)
    · by_cases hx : x.At ≤ m.At
      · exact .inl ⟨h, hx⟩
      · exact .inr (.inr ⟨h, by omega⟩)
theorem putL_at {m : Transit} {l : List Transit} {k : Nat} (hk : k ≤ l.length) (h1 : ∀ i (hi : i < l.length), i < k → l[i].At ≤ m.At) (h2 : ∀ i (hi : i < l.length), k ≤ i → m.At < l[i].At) : l.take k ++ m :: l.drop k = putL m l := by
  have e1 : l.filter (fun x => decide (x.At ≤ m.At)) = l.take k := by
    conv => lhs; rw [← List.take_append_drop k l]
    rw [List.filter_append, List.filter_eq_self.2 (fun x hx => ?_), List.filter_eq_nil_iff.2 (fun x hx => ?_), List.append_nil]
    · obtain ⟨i, hi, rfl⟩ := List.getElem_of_mem hx
      simp at hi
      rw [List.getElem_drop]
      have := h2 (k + i) (by omega) (by omega)
      simp; omega
    · obtain ⟨i, hi, rfl⟩ := List.getElem_of_mem hx
      simp at hi
      rw [List.getElem_take]
      exact decide_eq_true (h1 i (by omega) (by omega))
  have e2 : l.filter (fun x => decide (m.At < x.At)) = l.drop k := by
    conv => lhs; rw [← List.take_append_drop k l]
    rw [List.filter_append, List.filter_eq_nil_iff.2 (fun x hx => ?_), List.filter_eq_self.2 (fun x hx => ?_), List.nil_append]
    · obtain ⟨i, hi, rfl⟩ := List.getElem_of_mem hx
      simp at hi
      rw [List.getElem_drop]
      exact decide_eq_true (h2 (k + i) (by omega) (by omega))
    · obtain ⟨i, hi, rfl⟩ := List.getElem_of_mem hx
      simp at hi
      rw [List.getElem_take]
      have := h1 i (by omega) (by omega)
      simp; omega
  unfold putL
  rw [e1, e2]
theorem putL_sorted {m : Transit} {l : List Transit} (hs : l.Pairwise tlt) (ho : ∀ x ∈ l, x.At = m.At → x.Order < m.Order) : (putL m l).Pairwise tlt := by
  unfold putL
  refine List.pairwise_append.2 ⟨hs.filter _, List.pairwise_cons.2 ⟨fun x hx => ?_, hs.filter _⟩, fun x hx y hy => ?_⟩
  · have := List.mem_filter.1 hx
    simp only [decide_eq_true_eq] at this
    exact .inl this.2
  · obtain ⟨h1, h2⟩ := List.mem_filter.1 hx
    have h2 := of_decide_eq_true h2
    rcases List.mem_cons.1 hy with rfl | hy
    · by_cases he : x.At = y.At
      · exact .inr ⟨he, ho x h1 he⟩
      · exact .inl (by omega)
    · have h3 := of_decide_eq_true (List.mem_filter.1 hy).2
      exact .inl (by omega)

/-- while the copies of a message are sent -/
structure SI (w : Wire) (del : Int) (i : Nat) (l : List Transit) : Prop where
  s : l.Pairwise tlt
  b : ∀ x ∈ l, ((x.Data.size : Int) ≤ 4096) ∧ (w.Now + 1 ≤ x.At ∧ x.At ≤ 2199023255552) ∧ (0 ≤ x.Order ∧ x.Order ≤ w.Order) ∧ (x.Order = w.Order → x.At < w.Now + 1 + del + i)
  l : l.length = w.Items.length + i
theorem SI.zero {w : Wire} (h : WV w) (del : Int) : SI w del 0 w.Items := ⟨h.s, fun x hx => by
  have := h.i x hx
  have h1 := this.d
  have h2 := this.a
  have h3 := this.o
  exact ⟨h1, h2, by omega, fun e => by omega⟩, rfl⟩
theorem SI.step {w : Wire} {del : Int} {i : Nat} {l : List Transit} {data : ByteArray} (hv : WV w) (h : SI w del i l) (d0 : 0 ≤ del) (d1 : del ≤ 1048576) (hi : i ≤ 100) (hd : (data.size : Int) ≤ 4096) : SI w del (i + 1) (putL ⟨w.Now + 1 + del + i, w.Order, data⟩ l) := by
  have hn := hv.n
  have ho := hv.o
  refine ⟨putL_sorted h.s (fun x hx he => ?_), fun x hx => ?_, by rw [putL_len, h.l]; omega⟩
  · have := h.b x hx
    simp only at he ⊢
    by_cases hq : x.Order = w.Order
    · have := this.2.2.2 hq; omega
    · omega
  · rcases putL_mem.1 hx with rfl | hx
    · exact ⟨hd, by simp only; omega, by simp only; omega, fun _ => by simp only; omega⟩
    · obtain ⟨b1, b2, b3, b4⟩ := h.b x hx
      exact ⟨b1, b2, b3, fun e => by have := b4 e; omega⟩
/-- the messages that are sent, one after the other -/
def sendL (base o : Int) (data : ByteArray) : Nat → List Transit → List Transit
  | 0, l => l
  | n + 1, l => putL ⟨base + n, o, data⟩ (sendL base o data n l)
theorem SI.send {w : Wire} {del : Int} {data : ByteArray} (hv : WV w) (d0 : 0 ≤ del) (d1 : del ≤ 1048576) (hd : (data.size : Int) ≤ 4096) : ∀ n, n ≤ 100 → SI w del n (sendL (w.Now + 1 + del) w.Order data n w.Items)
  | 0, _ => SI.zero hv del
  | n + 1, h => (SI.send hv d0 d1 hd n (by omega)).step hv d0 d1 (by omega) hd
theorem SI.wv {w : Wire} {del : Int} {n : Nat} {l : List Transit} (hv : WV w) (h : SI w del n l) (ho : w.Order < 1099511627776) (hl : l.length ≤ 1024) : WV ⟨w.Now, w.Order + 1, l⟩ := by
  have h1 := hv.n
  have h2 := hv.o
  exact ⟨h1, by simp only; omega, hl, fun x hx => by
    obtain ⟨b1, b2, b3, b4⟩ := h.b x hx
    exact ⟨b1, b2, by simp only; omega⟩, h.s⟩

/-- where the code puts a message -/
theorem send_at {w : Wire} {del : Int} {i : Nat} {l : List Transit} {data : ByteArray} (hv : WV w) (h : SI w del i l) (d0 : 0 ≤ del) (d1 : del ≤ 1048576) (hi : i ≤ 100) (hl : l.length ≤ 2000) :
    ∃ (k : Nat) (c : Bool), slices_BinarySearchFunc_Lapi_Transit_api_Transit_api_Transit l ⟨w.Now + 1 + del + i, w.Order, data⟩ link_order = some ((k : Int), c) ∧ k ≤ l.length ∧ l.take k ++ ⟨w.Now + 1 + del + i, w.Order, data⟩ :: l.drop k = putL ⟨w.Now + 1 + del + i, w.Order, data⟩ l := by
  have hn := hv.n
  have ho := hv.o
  have hsm : Sm ⟨w.Now + 1 + del + i, w.Order, data⟩ := by unfold Sm; simp only; omega
  obtain ⟨k, c, e, hk, h1, h2⟩ := bs_spec (fun j => match l[j]? with | some x => decide (x.At ≤ w.Now + 1 + del + i) | none => false) l ⟨w.Now + 1 + del + i, w.Order, data⟩ (by omega) (fun j hj => by
    have hx := h.b _ (List.getElem_mem hj)
    obtain ⟨v, ev, hv⟩ := order_spec (a := l[j]) (b := ⟨w.Now + 1 + del + i, w.Order, data⟩) (by unfold Sm; omega) hsm
    refine ⟨v, ev, ?_⟩
    rw [hv, List.getElem?_eq_getElem hj]
    simp only [decide_eq_true_eq]
    unfold tlt
    simp only
    by_cases hq : l[j].Order = w.Order
    · have := hx.2.2.2 hq; omega
    · omega) (fun a b hab hb hp => by
    rw [List.getElem?_eq_getElem hb] at hp
    rw [List.getElem?_eq_getElem (by omega)]
    simp only [decide_eq_true_eq] at hp ⊢
    by_cases hq : a = b
    · subst hq; exact hp
    · have := List.pairwise_iff_getElem.1 h.s a b (by omega) hb (by omega)
      unfold tlt at this
      omega)
  refine ⟨k, c, e, hk, putL_at hk (fun j hj hjk => ?_) (fun j hj hjk => ?_)⟩
  · have := h1 j hjk
    rw [List.getElem?_eq_getElem hj] at this
    simpa using this
  · have := h2 j hjk hj
    rw [List.getElem?_eq_getElem hj] at this
    simp at this
    simp only
    omega

theorem msg_eq {w : Wire} (hv : WV w) {del : Int} (d0 : 0 ≤ del) (d1 : del ≤ 1048576) {i : Nat} (hi : i ≤ 100) : w64 (w64 (w64 (w.Now + 1) + del) + (i : Int)) = w.Now + 1 + del + i := by
  have hn := hv.n
  rw [w64_id (x := w.Now + 1) (by omega) (by omega), w64_id (x := w.Now + 1 + del) (by omega) (by omega), w64_id (by omega) (by omega)]
theorem send_loop {w : Wire} {f : Fault} {data : ByteArray} (hv : WV w) (d0 : 0 ≤ f.Delay) (d1 : f.Delay ≤ 1048576) (hd : (data.size : Int) ≤ 4096) (n : Nat) (hn : n ≤ 20) :
    whileM (link_Send_l1 w data f (n : Int)) (w.Items, 0) = some (sendL (w.Now + 1 + f.Delay) w.Order data n w.Items) := by
  have hl := hv.l
  obtain ⟨r, er, rfl⟩ := loop_fold (body := link_Send_l1 w data f (n : Int)) (fun a i => (a, i)) n (fun i a => a = sendL (w.Now + 1 + f.Delay) w.Order data i w.Items) (fun r => r = sendL (w.Now + 1 + f.Delay) w.Order data n w.Items) (fun i hi a ha => by
    have hS := SI.send hv d0 d1 hd i (by omega)
    rw [← ha] at hS
    have hal := hS.l
    obtain ⟨k, c, e, hk, hp⟩ := send_at (data := data) hv hS d0 d1 (by omega) (by omega)
    unfold link_Send_l1
    simp only
    rw [if_pos (decide_eq_true (by omega)), msg_eq hv d0 d1 (by omega), e]
    simp only [Option.bind_some]
    rw [insert_spec a _ hk (by omega)]
    simp only [Option.bind_some]
    rw [w64_n (by omega), hp]
    exact ⟨_, rfl, by rw [ha]; rfl⟩) (fun a ha => by
    unfold link_Send_l1
    simp only
    rw [if_neg (by simp)]
    exact ⟨a, rfl, ha⟩) w.Items rfl
  exact er

/-- where the reference puts it -/
theorem rsend_at {w : Wire} {f : Fault} {i : Nat} {l : List Transit} (hv : WV w) (d0 : 0 ≤ f.Delay) (d1 : f.Delay ≤ 1048576) (h : SI w f.Delay i l) (hi : i ≤ 100) (hl : l.length ≤ 2000) :
    ∃ k : Nat, whileM (ref09_Send_l6 w f (l, (i : Int))) (l.length : Int) = some (k : Int) ∧ k ≤ l.length ∧ (∀ j (hj : j < l.length), j < k → l[j].At ≤ w.Now + 1 + f.Delay + i) ∧ (∀ j (hj : j < l.length), k ≤ j → w.Now + 1 + f.Delay + i < l[j].At) := by
  obtain ⟨e, ee, k, rfl, h1, h2, h3⟩ := loop_ex (b1 := ref09_Send_l6 w f (l, (i : Int)))
    (fun n s => s = (n : Int) ∧ n ≤ l.length ∧ (∀ j (hj : j < l.length), n ≤ j → w.Now + 1 + f.Delay + i < l[j].At))
    (fun e => ∃ k : Nat, e = (k : Int) ∧ k ≤ l.length ∧ (∀ j (hj : j < l.length), j < k → l[j].At ≤ w.Now + 1 + f.Delay + i) ∧ (∀ j (hj : j < l.length), k ≤ j → w.Now + 1 + f.Delay + i < l[j].At)) (by
      rintro n s ⟨rfl, hnl, hj⟩
      unfold ref09_Send_l6
      simp only
      by_cases h0 : 0 < n
      · have e1 : w64 ((n : Int) - 1) = ((n - 1 : Nat) : Int) := w64_nat (by omega) (by omega)
        rw [if_pos (decide_eq_true (by omega)), e1, ix_nat _ (n - 1) (by omega), msg_eq hv d0 d1 hi]
        simp only [Option.bind_some]
        by_cases h4 : w.Now + 1 + f.Delay + i < (l[n - 1]'(by omega)).At
        · left
          rw [if_pos (decide_eq_true h4)]
          refine ⟨_, n - 1, rfl, ⟨rfl, by omega, fun j hj' hn => ?_⟩, by omega⟩
          by_cases hq : j = n - 1
          · subst hq; exact h4
          · exact hj j hj' (by omega)
        · right
          rw [if_neg (by simpa using h4)]
          refine ⟨_, rfl, n, rfl, hnl, fun j hj' hjn => ?_, hj⟩
          by_cases hq : j = n - 1
          · subst hq; omega
          · have := List.pairwise_iff_getElem.1 h.s j (n - 1) hj' (by omega) (by omega)
            unfold tlt at this
            omega
      · right
        rw [if_neg (by simp; omega)]
        exact ⟨_, rfl, n, rfl, hnl, fun j hj' hjn => by omega, hj⟩) l.length (l.length : Int) ⟨rfl, Nat.le_refl _, fun j hj hn => by omega⟩
  exact ⟨k, ee, h1, h2, h3⟩
theorem rput (l : List Transit) (m : Transit) {k : Nat} (hk : k ≤ l.length) : (copyM (l ++ [m]) ((k + 1 : Nat) : Int) ((l ++ [m]).length : Int) ((l ++ [m]).drop k)).set k m = l.take k ++ m :: l.drop k := by
  unfold copyM
  simp only [Int.toNat_natCast]
  have q0 : (l ++ [m]).length = l.length + 1 := by simp
  rw [q0]
  have q1 : ((l ++ [m]).drop k).take (l.length + 1 - (k + 1)) = l.drop k := by
    rw [List.drop_append_of_le_length hk, List.take_left' (by rw [List.length_drop]; omega)]
  have q3 : (l ++ [m]).drop (k + 1 + min ((l ++ [m]).drop k).length (l.length + 1 - (k + 1))) = [] := List.drop_eq_nil_of_le (by rw [q0, List.length_drop, q0]; omega)
  rw [q1, q3, List.append_nil]
  have hlt : k < ((l ++ [m]).take (k + 1)).length := by rw [List.length_take, q0]; omega
  rw [List.set_append_left _ _ hlt]
  have q2 : (l ++ [m]).take (k + 1) = l.take k ++ [(l ++ [m])[k]'(by rw [q0]; omega)] := by
    rw [take_one (by rw [q0]; omega), List.take_append_of_le_length hk]
  rw [q2, List.set_append_right _ _ (by rw [List.length_take]; omega)]
  have : k - (l.take k).length = 0 := by rw [List.length_take]; omega
  rw [this]
  simp
theorem rsend_loop {w : Wire} {f : Fault} {data : ByteArray} (hv : WV w) (d0 : 0 ≤ f.Delay) (d1 : f.Delay ≤ 1048576) (hd : (data.size : Int) ≤ 4096) (n : Nat) (hn : n ≤ 20) :
    whileM (ref09_Send_l3 w data f (n : Int)) (w.Items, 0) = some (sendL (w.Now + 1 + f.Delay) w.Order data n w.Items) := by
  have hl := hv.l
  obtain ⟨r, er, rfl⟩ := loop_fold (body := ref09_Send_l3 w data f (n : Int)) (fun a i => (a, i)) n (fun i a => a = sendL (w.Now + 1 + f.Delay) w.Order data i w.Items) (fun r => r = sendL (w.Now + 1 + f.Delay) w.Order data n w.Items) (fun i hi a ha => by
    have hS := SI.send hv d0 d1 hd i (by omega)
    rw [← ha] at hS
    have hal := hS.l
    obtain ⟨k, e, hk, h1, h2⟩ := rsend_at hv d0 d1 hS (by omega) (by omega)
    unfold ref09_Send_l3
    simp only
    rw [if_pos (decide_eq_true (by omega)), msg_eq hv d0 d1 (by omega)]
    simp only [Option.bind_some]
    rw [e]
    simp only [Option.bind_some]
    rw [appM_one _ _ _ (by simp; omega) (by decide), w64_n (n := k) (by omega)]
    simp only [Option.bind_some]
    have q0 : ∀ m : Transit, (a ++ [m]).length = a.length + 1 := fun m => by simp
    rw [sub_at _ (k + 1) _ (by rw [q0]; omega) (Nat.le_refl _), sub_at _ k _ (by rw [q0]; omega) (Nat.le_refl _)]
    simp only [Option.bind_some]
    rw [List.take_of_length_le (Nat.le_refl _)]
    have hp := putL_at (m := ⟨w.Now + 1 + f.Delay + i, w.Order, data⟩) hk h1 h2
    rw [← rput a _ hk] at hp
    generalize hc : copyM (a ++ [(⟨w.Now + 1 + f.Delay + i, w.Order, data⟩ : Transit)]) ((k + 1 : Nat) : Int) ((a ++ [(⟨w.Now + 1 + f.Delay + i, w.Order, data⟩ : Transit)]).length : Int) ((a ++ [(⟨w.Now + 1 + f.Delay + i, w.Order, data⟩ : Transit)]).drop k) = c at *
    have hcl : c.length = a.length + 1 := by
      have h := congrArg List.length hp
      rw [List.length_set, putL_len] at h
      exact h
    rw [ix_nat c k (by omega)]
    simp only [Option.bind_some]
    rw [setM_at _ _ _ (by omega) (by omega), Int.toNat_natCast, hp]
    simp only [Option.bind_some]
    rw [w64_n (by omega)]
    exact ⟨_, rfl, by rw [ha]; rfl⟩) (fun a ha => by
    unfold ref09_Send_l3
    simp only
    rw [if_neg (by simp)]
    exact ⟨a, rfl, ha⟩) w.Items rfl
  exact er

/-- a fault that may be -/
def FV (f : Fault) : Prop := (0 ≤ f.Delay ∧ f.Delay ≤ 1048576) ∧ (0 ≤ f.Copies ∧ f.Copies ≤ 8)
theorem fault_spec (f : Fault) : ∃ c, link_ValidFault f = some c ∧ ref09_ValidFault f = some c ∧ (c = true ↔ FV f) := by
  unfold link_ValidFault ref09_ValidFault link_in ref01_In FV
  simp only [Option.bind_some]
  by_cases h1 : 0 ≤ f.Delay ∧ f.Delay ≤ 1048576
  · rw [decide_eq_true h1.1, decide_eq_true h1.2]
    refine ⟨_, rfl, rfl, ?_⟩
    simp [h1]
  · have : (decide (0 ≤ f.Delay) && decide (f.Delay ≤ 1048576)) = false := by rw [Bool.and_eq_false_iff]; simp; omega
    rw [this]
    exact ⟨false, rfl, rfl, fun h => (by cases h), fun h => absurd h.1 h1⟩
/-- how many messages a fault lets through -/
def cop (f : Fault) : Nat := if f.Drop then 0 else (1 + f.Copies).toNat
theorem send_spec {w : Wire} {f : Fault} {data : ByteArray} (hv : WV w) (hf : FV f) (hd : (data.size : Int) ≤ 4096) (ho : w.Order < 1099511627776) (hl : w.Items.length + cop f ≤ 1024) :
    link_Send w data f = some (⟨w.Now, w.Order + 1, sendL (w.Now + 1 + f.Delay) w.Order data (cop f) w.Items⟩, 0) ∧ ref09_Send w data f = some (⟨w.Now, w.Order + 1, sendL (w.Now + 1 + f.Delay) w.Order data (cop f) w.Items⟩, 0) ∧
      WV ⟨w.Now, w.Order + 1, sendL (w.Now + 1 + f.Delay) w.Order data (cop f) w.Items⟩ := by
  obtain ⟨⟨d0, d1⟩, c0, c1⟩ := hf
  have ho2 := hv.o
  obtain ⟨c, e1, e2, hc⟩ := valid_spec w
  have := hc.2 hv
  subst this
  obtain ⟨g, e3, e4, hg⟩ := fault_spec f
  have := hg.2 ⟨⟨d0, d1⟩, c0, c1⟩
  subst this
  have hcop : cop f ≤ 9 := by unfold cop; split <;> omega
  have hS := SI.send (data := data) hv d0 d1 hd (cop f) (by omega)
  have hlen := hS.l
  have hclone : slices_Clone_Lapi_Transit_api_Transit w.Items = some w.Items := by
    unfold slices_Clone_Lapi_Transit_api_Transit
    rw [appM_one _ _ _ (by have := hv.l; simp; omega) (by decide)]
    rfl
  have hcopy : ref09_Copy w = some w := by
    unfold ref09_Copy
    rw [appM_one _ _ _ (by have := hv.l; simp; omega) (by decide)]
    rfl
  have j1 : ∀ n : Nat, n = cop f → link_Send_j1 w data f (n : Int) = some (⟨w.Now, w.Order + 1, sendL (w.Now + 1 + f.Delay) w.Order data (cop f) w.Items⟩, 0) := fun n hn => by
    unfold link_Send_j1
    have ho3 : (w.Order == 1099511627776) = false := beq_eq_false_iff_ne.2 (by omega)
    rw [decide_eq_false (show ¬ (4096 : Int) < (data.size : Int) by omega), ho3, w64_id (x := (w.Items.length : Int) + (n : Int)) (by omega) (by omega), decide_eq_false (show ¬ (1024 : Int) < (w.Items.length : Int) + (n : Int) by omega)]
    simp only [Bool.or_self, Bool.false_eq_true, if_false]
    rw [hclone]
    simp only [Option.bind_some]
    rw [hn, send_loop hv d0 d1 hd _ (by omega)]
    simp only [Option.bind_some]
    rw [w64_id (x := w.Order + 1) (by omega) (by omega)]
  have j2 : ∀ n : Nat, n = cop f → ref09_Send_j1 w data f (n : Int) = some (⟨w.Now, w.Order + 1, sendL (w.Now + 1 + f.Delay) w.Order data (cop f) w.Items⟩, 0) := fun n hn => by
    unfold ref09_Send_j1
    have ho3 : (w.Order == 1099511627776) = false := beq_eq_false_iff_ne.2 (by omega)
    rw [decide_eq_false (show ¬ (4096 : Int) < (data.size : Int) by omega), ho3, w64_id (x := (w.Items.length : Int) + (n : Int)) (by omega) (by omega), decide_eq_false (show ¬ (1024 : Int) < (w.Items.length : Int) + (n : Int) by omega)]
    simp only [Bool.or_self, Bool.false_eq_true, if_false]
    rw [hcopy]
    simp only [Option.bind_some]
    rw [hn, rsend_loop hv d0 d1 hd _ (by omega)]
    simp only [Option.bind_some]
    rw [w64_id (x := w.Order + 1) (by omega) (by omega)]
  refine ⟨?_, ?_, hS.wv hv ho (by omega)⟩
  · unfold link_Send
    rw [e1, e3]
    simp only [Option.bind_some, Bool.not_true, Bool.false_eq_true, if_false]
    rw [w64_id (x := 1 + f.Copies) (by omega) (by omega)]
    cases hD : f.Drop with
    | true => exact j1 0 (by unfold cop; rw [hD]; rfl)
    | false =>
      have := j1 (cop f) rfl
      unfold cop at this
      rw [hD] at this
      simp only [Bool.false_eq_true, if_false] at this ⊢
      rw [Int.toNat_of_nonneg (by omega)] at this
      unfold cop
      rw [hD]
      simp only [Bool.false_eq_true, if_false]
      exact this
  · unfold ref09_Send
    rw [e2, e4]
    simp only [Option.bind_some, Bool.not_true, Bool.false_eq_true, if_false]
    rw [w64_id (x := 1 + f.Copies) (by omega) (by omega)]
    cases hD : f.Drop with
    | true => exact j2 0 (by unfold cop; rw [hD]; rfl)
    | false =>
      have := j2 (cop f) rfl
      unfold cop at this
      rw [hD] at this
      simp only [Bool.false_eq_true, if_false] at this ⊢
      rw [Int.toNat_of_nonneg (by omega)] at this
      unfold cop
      rw [hD]
      simp only [Bool.false_eq_true, if_false]
      exact this

end Go.Proofs.Ytljdiobhmenjgaa.Sh

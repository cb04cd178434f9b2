/- A library for walks over any program: a row that is cut short, an append of zeros. No statement of the seat is used here. -/
import Derived.Test.YtmlekplbmfengaaGreatLibI
namespace Go.Proofs.YtmlekplbmfengaaGreat.Wk
open Go Go.RowKit Go.Proofs.YtmlekplbmfengaaGreat.Sh
set_option linter.unusedSimpArgs false
set_option linter.unusedVariables false
section steps
variable {P : Program} {ops : Array Oper} {Q : Exit → Act → World → Prop} {rest : List Oper} {N : Nat} {L : Slots} {a : Act} {w : World} {fx : Fx} {S : Nat → Prop} {R : List Res} {E : List Asrt}
variable {ty : TypeId} {pos : String} {af : Array Edge} {g : Option (Nat × Bool)} {d : Nat}
/-- a row of the call's own, cut short: it stays its own -/
theorem w_cut {α : Type} [Enc α] {p : Option Addr} {k : Nat} {cs : List Value} {T : TypeId} {xs ys : List α} {h' : Int} (hw : Wd fx S R E w) (i : Nat) (hr : R[i]? = some (.row p xs.length k cs T (Enc.sz α))) (ie : Nat) (hE : E[ie]? = some (RowA cs xs)) (hs : subM xs 0 h' = some ys) :
    (Wd fx S (R.set i (.row p ys.length k (cs.take (ys.length * Enc.sz α)) T (Enc.sz α))) (RowA (cs.take (ys.length * Enc.sz α)) ys :: E) w) ∧ SubOf p xs.length k 0 h' (Enc.sz α) p ys.length k := by
  obtain ⟨⟨h0, h1, h2⟩, he⟩ := subM_t hs
  simp only [Int.toNat_zero, List.drop_zero] at he
  have ho := hw.ownAt i hr
  have hR : RdL S w cs xs := hw.envAt ie hE
  have hlen : ys.length = h'.toNat := by rw [he]; simp; omega
  have hle : ys.length ≤ xs.length := by omega
  have hcl := hR.length
  have hnk : xs.length ≤ k := by
    rcases ho.2 with ⟨e0, e1⟩ | ⟨b, cap, cur, e0, _, g1, g2, g3, g4, g5⟩
    · omega
    · simp only [Value.slice.injEq] at e0; omega
  have hrd : RdL S w (cs.take (ys.length * Enc.sz α)) ys := by
    have hcut : ∀ (xs : List α) (cs : List Value) (m : Nat), RdL S w cs xs → m ≤ xs.length → RdL S w (cs.take (m * Enc.sz α)) (xs.take m) := by
      intro xs
      induction xs with
      | nil => intro cs m h hm; have : m = 0 := by simpa using hm
               subst this; simp only [List.take_nil, Nat.zero_mul, List.take_zero]; rfl
      | cons x xs ih =>
        intro cs m h hm
        cases m with
        | zero => simp only [Nat.zero_mul, List.take_zero]; rfl
        | succ m =>
          obtain ⟨a1, a2⟩ := h
          have := ih _ m a2 (by simpa using hm)
          refine ⟨?_, ?_⟩
          · rw [List.take_take, Nat.min_eq_left (by rw [Nat.succ_mul]; omega)]; exact a1
          · rw [List.drop_take, Nat.succ_mul, Nat.add_sub_cancel]; exact this
    rw [he] at hlen ⊢
    rw [hlen]
    exact hcut _ _ _ hR (by omega)
  have hown : (Res.row p ys.length k (cs.take (ys.length * Enc.sz α)) T (Enc.sz α)).own w := by
    obtain ⟨g0, hown'⟩ := ho
    have hmul : ys.length * Enc.sz α ≤ xs.length * Enc.sz α := Nat.mul_le_mul_right _ hle
    refine ⟨by rw [List.length_take]; omega, ?_⟩
    rcases hown' with ⟨e0, e1⟩ | ⟨b, cap, cur, e0, g1, g2, g3, g4, g5, g6⟩
    · simp only [Value.slice.injEq] at e0
      obtain ⟨rfl, -, rfl⟩ := e0
      have : ys.length = 0 := by omega
      exact .inl ⟨by rw [this], this⟩
    · simp only [Value.slice.injEq] at e0
      obtain ⟨rfl, -, rfl⟩ := e0
      refine .inr ⟨b, k, cur, rfl, g1, g2, by omega, g4, g5, ?_⟩
      rw [← g6, List.take_take, Nat.min_eq_left hmul]
  refine ⟨(hw.addE hrd).put i hr ⟨⟨rfl, rfl, rfl, Nat.le_refl _, fun _ _ _ => rfl⟩, Nat.le_refl _⟩ hown (fun b hb => ⟨.inl hb, (hw.at_ _ (List.mem_of_getElem? hr) b hb).2.1⟩), h0, h1, by omega, by simp; omega, by simp, ?_⟩
  rw [Int.toNat_zero, Nat.zero_mul]
  split
  · rfl
  · cases p <;> simp [Addr.add]
theorem Sl.wk {L' : Slots} (h : Sl N L a) (e : L'.map (fun x => lk x.1 L) = L'.map (fun x => some x.2)) : Sl N L' a := h.weaken _ (Each.of e)
theorem Wd.ft {R' : List Res} {E' : List Asrt} (h : Wd fx S R E w) (is js : List Nat) (hn : is.Nodup) (e1 : is.map (R[·]?) = R'.map some) (e2 : js.map (E[·]?) = E'.map some) : Wd fx S R' E' w := h.fit is hn (Sel.of e1) (AllIn.of js e2)
theorem Wd.cs {R' : List Res} {E' : List Asrt} (h : Wd fx S R E w) (is js : List Nat) (e1 : is.map (R[·]?) = R'.map some) (e2 : js.map (E[·]?) = E'.map some) : Cls R' E' w := h.cls is (Sel.of e1) (AllIn.of js e2)
/-- a literal slice that is not empty -/
theorem w_litSlice {α : Type} [Enc α] {t e : TypeId} {bytes m : Nat} {z : Value} {ps : Array (Nat × Operand)} {vs : List Value} {cs : List Value} {xs : List α} (hs : Sl N L a) (hw : Wd fx S R E w) (ht : ElT P t e (Enc.sz α) bytes z)
    (hv : ps.toList.map (fun q => (ev L q.2).map (fun v => (q.1, v))) = ((vs.zipIdx 0).map (fun p => (p.2, p.1))).map some) (hm : m = xs.length) (hl : vs.length = xs.length) (hsm : Nat.ble (m * Enc.sz α) 16777216 = true)
    (hc : vs.flatMap (fun v => v.cells.toList) = cs) (hz : vs.all (fun v => Nat.beq v.cells.toList.length (Enc.sz α)) = true) (hrd : RdL S w cs xs) (hN : Nat.ble (d + 1) N = true) (hwt : Wanted ops L g) (h0 : Nat.ble 1 xs.length = true)
    (K : ∀ b a w', Sl N ((d, .slice (some ⟨b, 0, none⟩) xs.length xs.length) :: L) a → Wd fx S (.row (some ⟨b, 0, none⟩) xs.length xs.length cs e (Enc.sz α) :: R) (RowA cs xs :: E) w' → wpList P ops Q rest a w') :
    wpList P ops Q (⟨some d, .buildSlice t m ps, ty, pos, af, g⟩ :: rest) a w := by
  refine w_buildSlice hs hw ht hv hm hl hsm hc hz hrd hN hwt fun p a w' hs hw => ?_
  obtain ⟨b, rfl⟩ := row_some (hw.ownAt 0 rfl) (Nat.le_of_ble_eq_true h0)
  exact K b a w' hs hw
/-! ### regions with many orders -/
theorem Cls.sub {R R' : List Res} {E E' : List Asrt} (h : Cls R E w) (is : List Nat) (hs : Sel R is R') (he : AllIn E E') : Cls R' E' w :=
  ⟨fun r hr => by obtain ⟨i, _, e⟩ := hs.mem r hr; exact h.own r (List.mem_of_getElem? e), fun e h' => h.env e (he.mem e h')⟩
/-- the numbers' bits, as a list of what is done -/
def bits (n k : Nat) : Array Bool := (Array.range n).map fun i => k.testBit i
section many
variable {J : Act → World → Prop} {C C' : World → Prop} {fuel : Nat} {listed l' : Array Bool}
theorem h_strong (hc : ∀ w, C' w → C w) : ∀ {fuel : Nat} {listed : Array Bool} {a : Act} {w : World}, wpAnyH P .any ops (OnlyN J) C' fuel listed a w → wpAnyH P .any ops (OnlyN J) C fuel listed a w
  | 0, _, _, _, h => h
  | _ + 1, _, _, _, h => ⟨h.1, fun i hi => wpOp_mono (fun a' w' h' => ⟨hc _ h'.1, h_strong hc h'.2⟩) (h.2 i hi)⟩
theorem h_get {i d : Nat} {o : Oper} {v : Value} (hs : Sl N L a) (hi : ops[i]? = some o) (hc : (Region.noSelect ops && Region.free .any ops listed i && (Region.ready .any ops listed).contains i) = true)
    (hd : o.dst = some d) (hN : Nat.ble (d + 1) N = true) (hC : C w) (hg : o.guard = none) (hy : ∀ w, C w → Yd P o L w v)
    (k : ∀ a, Sl N ((d, v) :: L) a → wpAnyH P .any ops (OnlyN J) C fuel (listed.setIfInBounds i true) a w) : wpAnyH P .any ops (OnlyN J) C (fuel + 1) listed a w := by
  simp only [Bool.and_eq_true] at hc
  exact h_take hs hi hc.1.1 hc.1.2 hc.2 (by rw [hg]; trivial) hd hN hC hy k
end many
end steps
end Go.Proofs.YtmlekplbmfengaaGreat.Wk

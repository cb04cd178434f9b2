/- A library for walks over any program: short forms of steps that come often. No statement of the seat is used here. -/
import Derived.Test.YtmlekplbmfengaaGreatLibL
import Derived.Test.YtmlekplbmfengaaGreatLibM
import Derived.KernelRfl
namespace Go.Proofs.YtmlekplbmfengaaGreat.Wk
open Go Go.RowKit Go.Proofs.YtmlekplbmfengaaGreat.Sh
set_option linter.unusedSimpArgs false
set_option linter.unusedVariables false
section steps
variable {P : Program} {ops : Array Oper} {Q : Exit → Act → World → Prop} {rest : List Oper} {N : Nat} {L : Slots} {a : Act} {w : World} {fx : Fx} {S : Nat → Prop} {R : List Res} {E : List Asrt}
variable {op : Op} {ty : TypeId} {pos : String} {af : Array Edge} {d : Nat} {x : Operand} {v : Value}
theorem sv (hs : Sl N L a) (hy : Yd P ⟨some d, op, ty, pos, af, none⟩ L w v) (hN : Nat.ble (d + 1) N = true) (k : ∀ a, Sl N ((d, v) :: L) a → wpList P ops Q rest a w) : wpList P ops Q (⟨some d, op, ty, pos, af, none⟩ :: rest) a w := st_val hs hy trivial rfl hN k
theorem mv (hs : Sl N L a) (hx : ev L x = some v) (hN : Nat.ble (d + 1) N = true) (k : ∀ a, Sl N ((d, v) :: L) a → wpList P ops Q rest a w) : wpList P ops Q (⟨some d, .move x, ty, pos, af, none⟩ :: rest) a w := st_val hs (y_move hx) trivial rfl hN k
theorem av (hs : Sl N L a) (hx : ev L x = some v) (hN : Nat.ble (d + 1) N = true) (k : ∀ a, Sl N ((d, v) :: L) a → wpList P ops Q rest a w) : wpList P ops Q (⟨some d, .assign x, ty, pos, af, none⟩ :: rest) a w := st_val hs (y_assign hx) trivial rfl hN k
theorem nl {K : Act → World → Prop} (h : K a w) : wpList P ops (Exit.then K Q) [] a w := wpList_nil (then_normal h)
theorem sr {y : Code} {id : Nat} {l : List Oper} (h : wpList P l.toArray (Exit.then (y.wp P Q) Q) l a w) : (Code.seq (Code.region id l.toArray false) y).wp P Q a w := wp_seq (wp_region_lit h)
theorem oi {α : Type} {a b : α} (h : some a = some b) : a = b := Option.some.inj h
theorem Sl.fl (hs : Sl N L a) (t : Nat) {p : Option Addr} {m n k : Nat} (h : lk t L = some (.slice p n k)) (e : m = n) : Sl N ((t, .slice p m k) :: L) a := hs.fix t _ h (by rw [e])
end steps
section held
variable {P : Program} {ops : Array Oper} {N : Nat} {L : Slots} {a : Act} {w : World} {J : Act → World → Prop} {C : World → Prop} {fuel : Nat} {listed : Array Bool} {fx : Fx} {S : Nat → Prop} {R : List Res} {E : List Asrt}
variable {op : Op} {ty : TypeId} {pos : String} {af : Array Edge} {d : Nat} {x : Operand} {v : Value}
theorem gv (hs : Sl N L a) (i : Nat) (hi : ops[i]? = some ⟨some d, op, ty, pos, af, none⟩) (hN : Nat.ble (d + 1) N = true) (hC : C w) (hy : ∀ w, C w → Yd P ⟨some d, op, ty, pos, af, none⟩ L w v)
    (k : ∀ a, Sl N ((d, v) :: L) a → wpAnyH P .any ops (OnlyN J) C fuel (listed.setIfInBounds i true) a w) (hc : (Region.noSelect ops && Region.free .any ops listed i && (Region.ready .any ops listed).contains i) = true := by kernel_rfl) : wpAnyH P .any ops (OnlyN J) C (fuel + 1) listed a w :=
  h_g hs i hi hc rfl hN hC rfl hy k
theorem gm (hs : Sl N L a) (i : Nat) (hi : ops[i]? = some ⟨some d, .move x, ty, pos, af, none⟩) (hx : ev L x = some v) (hN : Nat.ble (d + 1) N = true) (hC : C w)
    (k : ∀ a, Sl N ((d, v) :: L) a → wpAnyH P .any ops (OnlyN J) C fuel (listed.setIfInBounds i true) a w) (hc : (Region.noSelect ops && Region.free .any ops listed i && (Region.ready .any ops listed).contains i) = true := by kernel_rfl) : wpAnyH P .any ops (OnlyN J) C (fuel + 1) listed a w :=
  h_g hs i hi hc rfl hN hC rfl (fun w _ => y_move hx) k
theorem gt {g : Option (Nat × Bool)} (hs : Sl N L a) (i : Nat) (hi : ops[i]? = some ⟨some d, op, ty, pos, af, g⟩) (hw : Wanted ops L g) (hN : Nat.ble (d + 1) N = true) (hC : C w) (hy : ∀ w, C w → Yd P ⟨some d, op, ty, pos, af, g⟩ L w v)
    (k : ∀ a, Sl N ((d, v) :: L) a → wpAnyH P .any ops (OnlyN J) C fuel (listed.setIfInBounds i true) a w) (hc : (Region.noSelect ops && Region.free .any ops listed i && (Region.ready .any ops listed).contains i) = true := by kernel_rfl) : wpAnyH P .any ops (OnlyN J) C (fuel + 1) listed a w :=
  h_t hs i hi hc hw rfl hN hC hy k
theorem gs (hs : Sl N L a) (i : Nat) {t j : Nat} {b : Bool} (hi : ops[i]? = some ⟨some d, op, ty, pos, af, some (j, b)⟩) (ht : (ops[j]?).bind (·.dst) = some t) (hb : lk t L = some (.bool (!b))) (hN : Nat.ble (d + 1) N = true) (hC : C w)
    (k : ∀ a, Sl N ((d, undef) :: L) a → wpAnyH P .any ops (OnlyN J) C fuel (listed.setIfInBounds i true) a w) (hc : (Region.noSelect ops && Region.free .any ops listed i && (Region.ready .any ops listed).contains i) = true := by kernel_rfl) : wpAnyH P .any ops (OnlyN J) C (fuel + 1) listed a w :=
  h_s hs i hi hc rfl ht hb (.inl rfl) rfl hN hC k
theorem ho (i : Nat) {o : Oper} (ho : ops[i]? = some o) (h : wpList P ops (Exit.then (fun a' w' => C w' ∧ wpAnyH P .any ops (OnlyN J) C fuel (listed.setIfInBounds i true) a' w') (OnlyN J)) [o] a w) (hr : Region.ready .any ops listed = [i] := by kernel_rfl) : wpAnyH P .any ops (OnlyN J) C (fuel + 1) listed a w := h_one hr ho h
end held
end Go.Proofs.YtmlekplbmfengaaGreat.Wk

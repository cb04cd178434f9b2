/- The plain law: what the plain programs compute, put together in one text. -/
import Derived.Test.YthdimlepjpnncaaGreatLa1
import Derived.Maps.OwnSet
import Derived.Maps.RangeWalk
/- A library for walks over any program: maps of the call's own that tell which keys they have, and the loop over their entries. No statement of the seat is used here. -/
namespace Go.Proofs.YthdimlepjpnncaaGreat.Wk
open Go Go.RowKit Go.Proofs.YthdimlepjpnncaaGreat.Sh
open Go.ChangeMaps Go.MapKept
open Go.WideElems (Fit rd rg pl rd_val elemAt)
open Go.Maps (Keyed)
set_option linter.unusedSimpArgs false
set_option linter.unusedVariables false
/-- elements that a map may have: their values, and what they read as -/
class MoEl (α : Type) where
 val : α → Value
 cod : α → DataW Unit
 vinj : ∀ {a b : α}, val a = val b → a = b
 cinj : ∀ {a b : α}, cod a = cod b → a = b
open Classical in
noncomputable def moE (α : Type) [MoEl α] (v : Value) : Option (DataW Unit × List MemPlace) := if h : ∃ x : α, v = MoEl.val x then some (MoEl.cod h.choose, []) else none
theorem moE_val {α : Type} [MoEl α] (x : α) : moE α (MoEl.val x) = some (MoEl.cod x, []) := by
 unfold moE
 have h : ∃ y : α, MoEl.val x = MoEl.val y := ⟨x, rfl⟩
 rw [dif_pos h, ← MoEl.vinj h.choose_spec]
theorem moE_inv {α : Type} [MoEl α] {v : Value} {y : DataW Unit × List MemPlace} (h : moE α v = some y) : ∃ x : α, v = MoEl.val x ∧ y = (MoEl.cod x, []) := by
 unfold moE at h
 split at h
 ·rename_i h0
  exact ⟨h0.choose, h0.choose_spec, by simpa using h.symm⟩
 ·cases h
abbrev In64 (x : Int) : Prop := -9223372036854775808 ≤ x ∧ x ≤ 9223372036854775807
theorem in64_wf {x : Int} (h : In64 x) : (Lit.int .i64 x).wf = true := by
 simpa [Lit.wf, IntKind.min, IntKind.max, IntKind.signed, IntKind.bits] using h
/-- what the map reads as -/
structure MoIs {α : Type} [MoEl α] (D : DataW Unit) (m : Mo α) : Prop where
 map : Maps.IsMap D
 keys : (m.l.map (·.1)).Nodup
 wf : ∀ p ∈ m.l, In64 p.1
 at_ : ∀ p ∈ m.l, ∀ z, D.atKey (.int .i64 p.1) z = MoEl.cod p.2
 no : ∀ x, (∀ p ∈ m.l, p.1 ≠ x) → ∀ z, D.atKey (.int .i64 x) z = z
theorem MoIs.nil {α : Type} [MoEl α] : MoIs (α := α) (.map []) ⟨0, []⟩ :=
 ⟨Maps.isMap_empty, List.nodup_nil, fun p hp => (by cases hp), fun p hp => (by cases hp), fun x _ z => rfl⟩
theorem MoIs.has {α : Type} [MoEl α] {D : DataW Unit} {m : Mo α} (h : MoIs D m) {x : Int} (hx : Maps.has D (.int .i64 x) = true) : ∃ v, (x, v) ∈ m.l := by
 by_cases hp : ∃ p ∈ m.l, p.1 = x
 ·obtain ⟨p, hp, rfl⟩ := hp
  exact ⟨p.2, hp⟩
 ·have := Maps.has_false_of_atKey (h.no x (fun p hm he => hp ⟨p, hm, he⟩))
  rw [this] at hx
  cases hx
theorem MoIs.has_of {α : Type} [MoEl α] {D : DataW Unit} {m : Mo α} (h : MoIs D m) {p : Int × α} (hp : p ∈ m.l) : Maps.has D (.int .i64 p.1) = true := Maps.has_true_of_atKey (h.at_ p hp)
theorem MoIs.put {α : Type} [MoEl α] {D : DataW Unit} {m m' : Mo α} {x : Int} {v : α} (h : MoIs D m) (hp : m.put x v = some m') : MoIs (D.put (.int .i64 x) (MoEl.cod v)) m' := by
 obtain ⟨⟨hx, hn⟩, rfl⟩ := Mo.put_t hp
 refine ⟨h.map.put _ _, ?_, fun p hp => ?_, fun p hp z => ?_, fun y hy z => ?_⟩
 ·simp only [List.map_cons, List.nodup_cons]
  refine ⟨fun hm => ?_, ?_⟩
  ·obtain ⟨p, hp, he⟩ := List.mem_map.1 hm
   have := (List.mem_filter.1 hp).2
   simp [he] at this
  ·exact h.keys.sublist ((List.filter_sublist).map _)
 ·rcases List.mem_cons.1 hp with rfl | hp
  ·exact hx
  ·exact h.wf p (List.mem_filter.1 hp).1
 ·rcases List.mem_cons.1 hp with rfl | hp
  ·exact Maps.atKey_put_same h.map (show WideAt.IsKeyLit (.int .i64 x) from trivial) _ _
  ·obtain ⟨h1, h2⟩ := List.mem_filter.1 hp
   rw [Maps.atKey_put_other (fun e => by simp at e; simp [e] at h2)]
   exact h.at_ p h1 z
 ·have hyx : y ≠ x := fun e => hy (x, v) List.mem_cons_self e.symm
  rw [Maps.atKey_put_other (fun e => hyx (by simpa using e))]
  refine h.no y (fun p hp he => ?_) z
  refine hy p (List.mem_cons_of_mem _ (List.mem_filter.2 ⟨hp, ?_⟩)) he
  simp [he, hyx]
/-- the block of a map of the call's own -/
def moP {α : Type} [MoEl α] (P : Program) (kt : TypeId) (m : Mo α) (o : Obj) : Prop := ∃ D, MoIs D m ∧ ∀ (w : World) (b : Nat), w.heap[b]? = some o → w.ownsMap P kt (moE α) b m.n D
abbrev moR {α : Type} [MoEl α] (P : Program) (kt : TypeId) (b : Nat) (m : Mo α) : Res := .ob b (moP P kt m)
theorem own_any {P : Program} {k : TypeId} {R : Value → Option (DataW Unit × List MemPlace)} {b n : Nat} {D : DataW Unit} {w : World} (h : w.ownsMap P k R b n D) : ∃ o, w.heap[b]? = some o ∧ ∀ (w : World) (b : Nat), w.heap[b]? = some o → w.ownsMap P k R b n D := by
 obtain ⟨es, clock, hb, h1⟩ := h
 exact ⟨_, hb, fun w b hw => ⟨es, clock, hw, h1⟩⟩
theorem moR_of {α : Type} [MoEl α] {P : Program} {kt : TypeId} {m : Mo α} {b : Nat} {D : DataW Unit} {w : World} (h : w.ownsMap P kt (moE α) b m.n D) (hm : MoIs D m) : (moR P kt b m).own w := by
 obtain ⟨o, h1, h2⟩ := own_any h
 exact ⟨o, h1, D, hm, h2⟩
theorem moR_t {α : Type} [MoEl α] {P : Program} {kt : TypeId} {m : Mo α} {b : Nat} {w : World} (h : (moR P kt b m).own w) : ∃ D, w.ownsMap P kt (moE α) b m.n D ∧ MoIs D m := by
 obtain ⟨o, h1, D, h2, h3⟩ := h
 exact ⟨D, h3 w b h1, h2⟩
/-- what is still to come, behind the entries that have come (the last one first) -/
def leftO {α : Type} (D : DataW Unit) : List (Int × α) → Lit → Bool
 | [] => Maps.has D
 | p :: vs => fun z => leftO D vs z && !z.sameKey (.int .i64 p.1)
theorem leftO_has {α : Type} {D : DataW Unit} : ∀ {vs : List (Int × α)} {x : Int}, leftO D vs (.int .i64 x) = true ↔ Maps.has D (.int .i64 x) = true ∧ ∀ p ∈ vs, p.1 ≠ x
 | [], x => by simp [leftO]
 | q :: vs, x => by
  have hk : (Lit.int .i64 x).sameKey (.int .i64 q.1) = true ↔ q.1 = x := by
   constructor
   ·intro h
    have := WideAt.sameKey_eq h
    simp only [Lit.int.injEq, true_and] at this
    exact this.symm
   ·rintro rfl
    exact WideAt.sameKey_self (show WideAt.IsKeyLit (.int .i64 q.1) from trivial)
  simp only [leftO, Bool.and_eq_true, leftO_has, Bool.not_eq_true', List.mem_cons, forall_eq_or_imp]
  constructor
  ·rintro ⟨⟨h1, h2⟩, h3⟩
   refine ⟨h1, fun e => ?_, h2⟩
   rw [hk.2 e] at h3
   cases h3
  ·rintro ⟨h1, h2, h3⟩
   refine ⟨⟨h1, h3⟩, ?_⟩
   cases hs : (Lit.int .i64 x).sameKey (.int .i64 q.1) with
   | false => rfl
   | true => exact absurd (hk.1 hs) h2
/-- the entries that have come: of the map, no key twice -/
structure Came {α : Type} (m : Mo α) (vs : List (Int × α)) : Prop where
 mem : ∀ p ∈ vs, p ∈ m.l
 keys : (vs.map (·.1)).Nodup
theorem entry_any {P : Program} {w w2 : World} {b r r2 since c : Nat} {seen : Array Nat} {om : Obj} {v : Value} (hm : w.heap[b]? = some om) (hr : w.heap[r]? = some (.mapIter (some b) since seen c)) (h : (Instr.entry (.pointer (some ⟨r, 0, none⟩))).run P w = .ok v w)
  (hm2 : w2.heap[b]? = some om) (hr2 : w2.heap[r2]? = some (.mapIter (some b) since seen c)) : (Instr.entry (.pointer (some ⟨r2, 0, none⟩))).run P w2 = .ok v w2 := by
 simp only [Instr.entry, getObj, Sem.run_bind, Sem.run, hr, hr2, Result.andThen] at h ⊢
 cases hs : seen.back? with
 | none => rw [hs] at h; simp [stuck, Sem.run] at h
 | some st =>
  rw [hs] at h
  simp only [Sem.run_bind, Sem.run, hm, hm2, Result.andThen] at h ⊢
  cases om with
  | map es clock =>
   simp only at h ⊢
   by_cases hcl : (clock != c) = true
   ·simp [hcl, unsupported, Sem.run, Result.andThen] at h
   ·simp only [hcl, if_false, Sem.run_bind, Sem.run, Result.andThen] at h ⊢
    cases hf : es.find? (fun e => e.born == st) with
    | none => rw [hf] at h; simp [unsupported, Sem.run] at h
    | some e =>
     rw [hf] at h
     simp [Sem.run] at h ⊢
     exact h
  | _ => simp [stuck, Sem.run] at h
/-- the block of the loop's place in the map -/
def itP {α : Type} [MoEl α] (P : Program) (kt : TypeId) (om : Obj) (m : Mo α) (vs : List (Int × α)) (o : Obj) : Prop :=
 Came m vs ∧ ∃ D cnt, MoIs D m ∧ ∀ (w : World) (b r : Nat), (∃ since seen c, o = .mapIter (some b) since seen c) → w.heap[b]? = some om → w.heap[r]? = some o → w.ranges P kt (moE α) b r m.n D (leftO D vs) cnt ∧ ∀ e vs', vs = e :: vs' → (Instr.entry (.pointer (some ⟨r, 0, none⟩))).run P w = .ok (.tuple #[.int .i64 e.1, MoEl.val e.2]) w
abbrev itR {α : Type} [MoEl α] (P : Program) (kt : TypeId) (om : Obj) (b r : Nat) (m : Mo α) (vs : List (Int × α)) : Res := .ob r (fun o => (∃ since seen c, o = .mapIter (some b) since seen c) ∧ itP P kt om m vs o)
theorem ranges_any {P : Program} {k : TypeId} {R : Value → Option (DataW Unit × List MemPlace)} {b r n : Nat} {D : DataW Unit} {left : Lit → Bool} {cnt : Nat} {w : World} {om : Obj} (hm : w.heap[b]? = some om) (h : w.ranges P k R b r n D left cnt) :
  ∃ o, w.heap[r]? = some o ∧ (∃ since seen c, o = .mapIter (some b) since seen c) ∧ ∀ (w : World) (b r : Nat), (∃ since seen c, o = .mapIter (some b) since seen c) → w.heap[b]? = some om → w.heap[r]? = some o → w.ranges P k R b r n D left cnt := by
 obtain ⟨es, clock, since, seen, c0, hb, h1, h2, h3, hr, h4⟩ := h
 refine ⟨_, hr, ⟨since, seen, c0, rfl⟩, fun w' b' r' hi hb' hr' => ?_⟩
 obtain ⟨s', n', c', hi⟩ := hi
 simp only [Obj.mapIter.injEq, Option.some.injEq] at hi
 obtain ⟨rfl, rfl, rfl, rfl⟩ := hi
 rw [hb] at hm
 obtain rfl := Option.some.inj hm
 exact ⟨es, clock, since, seen, c0, hb', h1, h2, h3, hr', h4⟩
theorem mem_nodup_eq {α : Type} : ∀ {l : List (Int × α)}, (l.map (·.1)).Nodup → ∀ {p q : Int × α}, p ∈ l → q ∈ l → p.1 = q.1 → p = q
 | [], _, p, q, hp, _, _ => by cases hp
 | a :: r, h, p, q, hp, hq, he => by
  simp only [List.map_cons, List.nodup_cons] at h
  rcases List.mem_cons.1 hp with e1 | hp
  ·rcases List.mem_cons.1 hq with e2 | hq
   ·rw [e1, e2]
   ·rw [e1] at he
    exact absurd (List.mem_map.2 ⟨q, hq, he.symm⟩) h.1
  ·rcases List.mem_cons.1 hq with e2 | hq
   ·rw [e2] at he
    exact absurd (List.mem_map.2 ⟨p, hp, he⟩) h.1
   ·exact mem_nodup_eq h.2 hp hq he
theorem nodup_fst {α : Type} : ∀ {l : List (Int × α)}, (l.map (·.1)).Nodup → l.Nodup
 | [], _ => List.nodup_nil
 | a :: r, h => by
  simp only [List.map_cons, List.nodup_cons] at h
  exact List.nodup_cons.2 ⟨fun hm => h.1 (List.mem_map.2 ⟨a, hm, rfl⟩), nodup_fst h.2⟩
/-- all have come -/
theorem Came.perm {α : Type} {m : Mo α} {vs : List (Int × α)} (h : Came m vs) (hk : (m.l.map (·.1)).Nodup) (ha : ∀ p ∈ m.l, ∃ q ∈ vs, q.1 = p.1) : vs.Perm m.l := by
 have n1 : vs.Nodup := nodup_fst h.keys
 have n2 : m.l.Nodup := nodup_fst hk
 refine (List.perm_ext_iff_of_nodup n1 n2).2 fun p => ⟨h.mem p, fun hp => ?_⟩
 obtain ⟨q, hq, he⟩ := ha p hp
 rw [← mem_nodup_eq hk (h.mem q hq) hp he]
 exact hq
theorem foldO_append {σ ε : Type} {f : ε → σ → Option σ} : ∀ (l r : List ε) (s : σ), foldO f (l ++ r) s = (foldO f l s).bind (foldO f r)
 | [], r, s => rfl
 | e :: l, r, s => by
  show (f e s).bind (foldO f (l ++ r)) = ((f e s).bind (foldO f l)).bind (foldO f r)
  cases f e s with
  | none => rfl
  | some t => exact foldO_append l r t
theorem perm_rest {β : Type} : ∀ {vs l : List β}, vs.Nodup → (∀ x ∈ vs, x ∈ l) → ∃ o, (vs ++ o).Perm l
 | [], l, _, _ => ⟨l, List.Perm.refl _⟩
 | x :: vs, l, hn, hm => by
  obtain ⟨h1, h2⟩ := List.nodup_cons.1 hn
  obtain ⟨a, b, rfl⟩ := List.append_of_mem (hm x List.mem_cons_self)
  have hp : (a ++ x :: b).Perm (x :: (a ++ b)) := List.perm_middle
  obtain ⟨o, ho⟩ := perm_rest (vs := vs) (l := a ++ b) h2 (fun y hy => by
   rcases List.mem_cons.1 (hp.mem_iff.1 (hm y (List.mem_cons_of_mem _ hy))) with rfl | h
   ·exact absurd hy h1
   ·exact h)
  exact ⟨o, (List.Perm.cons x ho).trans hp.symm⟩
theorem Came.rest {α : Type} {m : Mo α} {vs : List (Int × α)} (h : Came m vs) : ∃ o, (vs ++ o).Perm m.l := perm_rest (nodup_fst h.keys) h.mem
theorem Came.len {α : Type} {m : Mo α} {vs : List (Int × α)} (h : Came m vs) : vs.length ≤ m.l.length := by
 obtain ⟨o, ho⟩ := h.rest
 have := ho.length_eq
 rw [List.length_append] at this
 omega
/-- the loop over the entries of a map: in whatever order they come -/
theorem wp_range {P : Program} {Q : Exit → Act → World → Prop} {a : Act} {w : World} {α σ β : Type} {f : Int × α → σ → Option σ} {K : σ → Option β} {m : Mo α} {c : Code} {r : β} (J : List (Int × α) → σ → Act → World → Prop) (s0 : σ)
  (hr : (m.each fun o => (foldO f o s0).bind K) = some r) (hJ : J [] s0 a w)
  (hb : ∀ vs s a w, Came m vs → (vs.Perm m.l → K s = some r) → (∀ e, Came m (e :: vs) → ∃ t, f e s = some t) → J vs s a w → c.wp P (Exit.then (fun a w => ∃ e t, Came m (e :: vs) ∧ f e s = some t ∧ J (e :: vs) t a w) Q) a w) : (Code.loop c).wp P Q a w := by
 have hall := Mo.each_t hr
 refine wp_loop_ghost (fun n a w => ∃ vs s, vs.length + n = m.l.length ∧ Came m vs ∧ foldO f vs.reverse s0 = some s ∧ J vs s a w) m.l.length ⟨[], s0, by simp, ⟨fun p hp => (by cases hp), List.nodup_nil⟩, rfl, hJ⟩ ?_
 rintro n a w ⟨vs, s, hn, hc, hf, hJ⟩
 refine wp_mono (hb vs s a w hc (fun hp => ?_) (fun e he => ?_) hJ) fun x a' w' hq => ?_
 ·have := hall vs.reverse ((List.reverse_perm vs).trans hp)
  rw [hf] at this
  exact this
 ·obtain ⟨o, ho⟩ := he.rest
  have hp : (vs.reverse ++ e :: o).Perm m.l := by
   refine (List.Perm.trans ?_ ho)
   refine (List.perm_middle).trans ?_
   exact List.Perm.cons e ((List.reverse_perm vs).append_right o)
  have := hall _ hp
  rw [foldO_append, hf] at this
  simp only [Option.bind_some, foldO] at this
  cases hfe : f e s with
  | none => rw [hfe] at this; cases this
  | some t => exact ⟨t, rfl⟩
 ·cases x with
  | normal =>
   obtain ⟨e, t, he, hfe, hJ'⟩ := hq
   have hl := he.len
   simp only [List.length_cons] at hl
   refine ⟨n - 1, by omega, e :: vs, t, by simp only [List.length_cons]; omega, he, ?_, hJ'⟩
   rw [List.reverse_cons, foldO_append, hf]
   simp only [Option.bind_some, foldO, hfe]
  | exit id => exact hq
  | goto l => exact hq
  | ret => exact hq
  | panic ch => exact hq
  | outgrown => exact hq
section steps
variable {P : Program} {ops : Array Oper} {Q : Exit → Act → World → Prop} {rest : List Oper} {N : Nat} {L : Slots} {a : Act} {w : World} {fx : Fx} {S : Nat → Prop} {R : List Res} {E : List Asrt}
variable {ty : TypeId} {pos : String} {af : Array Edge} {g : Option (Nat × Bool)} {d : Nat}
theorem w_makeMapO {α : Type} [MoEl α] {t kt : TypeId} (hs : Sl N L a) (hw : Wd fx S R E w) (hN : Nat.ble (d + 1) N = true) (hwt : Wanted ops L g)
  (k : ∀ b a w, Sl N ((d, .map (some b)) :: L) a → Wd fx S (moR P kt b (⟨0, []⟩ : Mo α) :: R) E w → wpList P ops Q rest a w) : wpList P ops Q (⟨some d, .makeMap t none, ty, pos, af, g⟩ :: rest) a w := by
 refine st_do hs (v := .map (some w.heap.size)) (w' := w.alloc (.map #[] 0)) (fun a h => ?_) hwt rfl hN fun a hs => ?_
 ·simp [execOp, run_makeMap]
 ·exact k _ _ _ hs (hw.new (grown_alloc _ _ _) (moR_of (World.ownsMap_made w P kt (moE α)) MoIs.nil) (fun b hb => by simp only [Res.blk, Option.some.injEq] at hb; subst hb; simp))
theorem w_updO {α : Type} [MoEl α] {t kt et : TypeId} {v : α} {vv : Value} {x y u : Operand} {b : Nat} {m m' : Mo α} {j : Int} (hs : Sl N L a) (hw : Wd fx S R E w) (i : Nat) (hr : R[i]? = some (moR P kt b m)) (ht : P.underlying t = some (.map kt et)) (hk : P.underlying kt = some (.int .i64))
  (hx : ev L x = some (.map (some b))) (hy : ev L y = some (.int .i64 j)) (hv : ev L u = some vv) (hvv : vv = MoEl.val v) (hp : m.put j v = some m') (hwt : Wanted ops L g)
  (k : ∀ a w, Sl N L a → Wd fx S (R.set i (moR P kt b m')) E w → wpList P ops Q rest a w) : wpList P ops Q (⟨none, .mapUpdate t x y u, ty, pos, af, g⟩ :: rest) a w := by
 subst hvv
 have hp0 := hp
 obtain ⟨⟨h1, h2⟩, rfl⟩ := Mo.put_t hp
 obtain ⟨D, hD, hm⟩ := moR_t (hw.ownAt i hr)
 obtain ⟨w', hrun, hD', htn⟩ := hD.store (Maps.int_keyed hk) ht (Nat.lt_of_lt_of_le h2 (by decide)) (Maps.keyOf_int_mk hk (in64_wf h1)) (moE_val v)
 have hgr : Grew w w' (some b) := ⟨htn.grown, by obtain ⟨_, _, _, _, _, rfl⟩ := htn; exact Nat.le_refl _⟩
 refine st_do0 hs (w' := w') (fun a h => ?_) hwt rfl fun a hs => ?_
 ·simp [execOp, h _ _ hx, h _ _ hy, h _ _ hv, hrun, Result.andThen]
 ·refine k _ _ hs (hw.put i hr (r' := moR P kt b _) hgr (moR_of hD' (hm.put hp0)) (fun c hc => ⟨.inl hc, ?_⟩))
  have := (hw.at_ _ (List.mem_of_getElem? hr) c hc).2.1
  exact Nat.lt_of_lt_of_le this hgr.size
theorem y_lookO {α : Type} [MoEl α] {t kt et : TypeId} {z : α} {zv : Value} {x y : Operand} {b : Nat} {m : Mo α} {j : Int} {r : α × Bool} {vv : Value} {dd : Option Tmp} (ho : (moR P kt b m).own w) (ht : P.underlying t = some (.map kt et)) (hk : P.underlying kt = some (.int .i64))
  (hz : ZeroT P et zv) (hzv : zv = MoEl.val z) (hx : ev L x = some (.map (some b))) (hy : ev L y = some (.int .i64 j)) (hg : m.look j z = some r) (hvv : MoEl.val r.1 = vv) :
  Yd P ⟨dd, .lookup t x y true, ty, pos, af, g⟩ L w (.tuple #[vv, .bool r.2]) := fun a h => by
 subst hvv
 obtain ⟨hr, hcase⟩ := Mo.look_t hg
 obtain ⟨D, hD, hm⟩ := moR_t ho
 subst hzv
 obtain ⟨u, ps, hrun, hu⟩ := hD.look_ok (Maps.int_keyed hk) ht (hz w) (moE_val z) (Maps.keyOf_int_mk hk (in64_wf hr))
 obtain ⟨c, rfl, hc⟩ := moE_inv hu
 simp only [Prod.mk.injEq] at hc
 have he : (Value.tuple #[MoEl.val c, .bool (Maps.has D (.int .i64 j))] : Value) = .tuple #[MoEl.val r.1, .bool r.2] := by
  rcases hcase with ⟨v, hv, rfl⟩ | ⟨hno, rfl⟩
  ·have e1 := hm.at_ _ hv (MoEl.cod z)
   have e2 := hm.has_of hv
   rw [hc.1] at e1
   rw [MoEl.cinj e1, e2]
  ·have e1 := hm.no j hno (MoEl.cod z)
   have e2 := Maps.has_false_of_atKey (hm.no j hno)
   rw [hc.1] at e1
   rw [MoEl.cinj e1, e2]
 rw [← he]
 simp [execOp, h _ _ hx, h _ _ hy, hrun, Result.andThen]
/-- the loop over the entries begins -/
theorem w_rangeO {α : Type} [MoEl α] {t kt et : TypeId} {x : Operand} {b : Nat} {m : Mo α} (hs : Sl N L a) (hw : Wd fx S R E w) (i : Nat) (hr : R[i]? = some (moR P kt b m)) (ht : P.underlying t = some (.map kt et)) (hk : P.underlying kt = some (.int .i64))
  (hx : ev L x = some (.map (some b))) (hwt : Wanted ops L g) (hN : Nat.ble (d + 1) N = true)
  (k : ∀ om r a w, (m.l.map (·.1)).Nodup → Sl N ((d, .pointer (some ⟨r, 0, none⟩)) :: L) a → Wd fx S (itR P kt om b r m [] :: R.set i (.ob b (fun o => o = om))) E w → wpList P ops Q rest a w) : wpList P ops Q (⟨some d, .range t x, ty, pos, af, g⟩ :: rest) a w := by
 obtain ⟨om, h1, D, hm, h2⟩ := hw.ownAt i hr
 obtain ⟨w', hrun, hrg, hgr, hsz⟩ := (h2 w b h1).range (Maps.int_keyed hk) ht
 refine st_do hs (v := .pointer (some ⟨w.heap.size, 0, none⟩)) (w' := w') (fun a h => ?_) hwt rfl hN fun a hs => ?_
 ·simp [execOp, h _ _ hx, hrun, Result.andThen]
 ·have hb := (hw.at_ _ (List.mem_of_getElem? hr) b rfl).2.1
  have hb' : w'.heap[b]? = some om := (hgr.block b hb (by simp)).trans h1
  obtain ⟨o, e1, e2, e3⟩ := ranges_any hb' hrg
  have hw1 : Wd fx S (R.set i (.ob b (fun o => o = om))) E w := hw.say i hr ⟨om, h1, rfl⟩ rfl
  have hg : Grew w w' none := ⟨hgr, by
   obtain ⟨es, clock, hb0, _⟩ := h2 w b h1
   have := run_range_map w t kt et b es clock ht hb0
   rw [hrun] at this
   simp only [Result.ok.injEq] at this
   rw [this.2]
   exact Nat.le_refl _⟩
  refine k om w.heap.size _ _ hm.keys hs (hw1.new hg ⟨o, e1, e2, ⟨⟨fun p hp => (by cases hp), List.nodup_nil⟩, D, _, hm, fun w b r q1 q2 q3 => ⟨e3 w b r q1 q2 q3, fun e vs' h => (by cases h)⟩⟩⟩ (fun c hc => ?_))
  simp only [Res.blk, Option.some.injEq] at hc
  subst hc
  exact ⟨Nat.le_refl _, by omega⟩
theorem next_drawn {w w' : World} {b r n : Nat} {D : DataW Unit} {left : Lit → Bool} {cnt : Nat} {k : TypeId} {R : Value → Option (DataW Unit × List MemPlace)} {v : Value} (h : w.ranges P k R b r n D left cnt) (hrun : (Instr.next (.pointer (some ⟨r, 0, none⟩)) false ty).run P w = .ok v w') : w.drawn ≤ w'.drawn := by
 obtain ⟨es, clock, since, seen, c0, hb, F, hs, rfl, hr, hold, rfl, hl1, hl2, hsc, hsk⟩ := h
 rcases run_next_at (P := P) w ty r b since c0 seen es clock hr hb hold hsc with ⟨h0, h1⟩ | ⟨e, he, w1, hal, h1⟩
 ·rw [h1] at hrun
  simp only [Result.ok.injEq] at hrun
  rw [← hrun.2]
  exact Nat.le_refl _
 ·rw [h1] at hrun
  simp only [Result.ok.injEq] at hrun
  rw [← hrun.2]
  rcases hal with rfl | rfl
  ·exact Nat.le_refl _
  ·exact Nat.le_succ _
/-- the loop's step -/
theorem w_nextO {α : Type} [MoEl α] {kt : TypeId} {x : Operand} {om : Obj} {b r : Nat} {m : Mo α} {vs : List (Int × α)} {ve : Int × α → Value} (hs : Sl N L a) (hw : Wd fx S R E w) (i j : Nat) (hi : R[i]? = some (itR P kt om b r m vs)) (hj : R[j]? = some (.ob b (fun o => o = om))) (hk : P.underlying kt = some (.int .i64))
  (hx : ev L x = some (.pointer (some ⟨r, 0, none⟩))) (hwt : Wanted ops L g) (hN : Nat.ble (d + 1) N = true) (hve : ∀ e : Int × α, MoEl.val e.2 = ve e)
  (k0 : ∀ a, vs.Perm m.l → Sl N ((d, .tuple #[.bool false]) :: L) a → wpList P ops Q rest a w)
  (k1 : ∀ e a w, e ∈ m.l → Came m (e :: vs) → Sl N ((d, .tuple #[.bool true, .int .i64 e.1, ve e]) :: L) a → Wd fx S (R.set i (itR P kt om b r m (e :: vs))) E w → wpList P ops Q rest a w) : wpList P ops Q (⟨some d, .next x false, ty, pos, af, g⟩ :: rest) a w := by
 obtain rfl : ve = fun e => MoEl.val e.2 := funext fun e => (hve e).symm
 obtain ⟨o, h1, h2, hc, D, cnt, hm, h3⟩ := hw.ownAt i hi
 obtain ⟨o', h4, h5⟩ := hw.ownAt j hj
 subst h5
 have hrg := (h3 w b r h2 h4 h1).1
 rcases hrg.next (Maps.int_keyed hk) ty with ⟨h0, hl, hrun⟩ | ⟨key, v, kl, y, w', cnt', hkey, hlk, hv, hat, hrun, hrg', hlt, hgr, hsz, hen⟩
 ·refine st_do hs (v := .tuple #[.bool false]) (w' := w) (fun a h => ?_) hwt rfl hN fun a hs => k0 a (hc.perm hm.keys fun p hp => ?_) hs
  ·simp [execOp, h _ _ hx, hrun, Result.andThen]
  ·by_cases he : ∃ q ∈ vs, q.1 = p.1
   ·exact he
   ·have := (leftO_has (D := D) (vs := vs) (x := p.1)).2 ⟨hm.has_of hp, fun q hq e => he ⟨q, hq, e⟩⟩
    rw [hl] at this
    cases this
 ·obtain ⟨z, rfl, rfl, hz⟩ := Maps.keyOf_int_inv hk hkey
  obtain ⟨c, rfl, rfl⟩ := moE_inv hv
  obtain ⟨l1, l2⟩ := leftO_has.1 hlk
  obtain ⟨u, hu⟩ := hm.has l1
  have huc : u = c := by
   have e1 := hm.at_ _ hu (MoEl.cod c)
   rw [hat] at e1
   exact (MoEl.cinj e1).symm
  subst huc
  refine st_do hs (v := .tuple #[.bool true, .int .i64 z, MoEl.val u]) (w' := w') (fun a h => ?_) hwt rfl hN fun a hs => ?_
  ·simp [execOp, h _ _ hx, hrun, Result.andThen]
  ·have hne := hrg.ne
   have hb' : w'.heap[b]? = some o' := (hgr.block b (by have := hrg.owns.lt; exact this) (by simp [Ne.symm hne])).trans h4
   obtain ⟨o2, e1, e2, e3⟩ := ranges_any hb' hrg'
   have hc' : Came m ((z, u) :: vs) := ⟨fun p hp => by
    rcases List.mem_cons.1 hp with rfl | hp
    ·exact hu
    ·exact hc.mem p hp, by
    simp only [List.map_cons, List.nodup_cons]
    refine ⟨fun hmm => ?_, hc.keys⟩
    obtain ⟨p, hp, he⟩ := List.mem_map.1 hmm
    exact l2 p hp he⟩
   refine k1 (z, u) _ w' hu hc' hs (hw.put i hi (r' := itR P kt o' b r m ((z, u) :: vs)) ⟨hgr, next_drawn hrg hrun⟩ ⟨o2, e1, e2, hc', D, cnt', hm, fun w2 b2 r2 q1 q2 q3 => ⟨e3 w2 b2 r2 q1 q2 q3, fun e vs' h => ?_⟩⟩ (fun c hcb => ⟨.inl hcb, ?_⟩))
   ·obtain ⟨rfl, -⟩ := List.cons.inj h
    obtain ⟨since, seen, c, rfl⟩ := e2
    obtain ⟨since', seen', c', q1⟩ := q1
    simp only [Obj.mapIter.injEq, Option.some.injEq] at q1
    obtain ⟨rfl, -, -, -⟩ := q1
    exact entry_any hb' e1 hen q2 q3
   ·have := (hw.at_ _ (List.mem_of_getElem? hi) c hcb).2.1
    omega
/-- the entry that has come last, read again -/
theorem y_entryO {α : Type} [MoEl α] {kt : TypeId} {x : Operand} {om : Obj} {b r : Nat} {m : Mo α} {e : Int × α} {vs : List (Int × α)} {vv : Value} {dd : Option Tmp} (hi : (itR P kt om b r m (e :: vs)).own w) (hj : (Res.ob b (fun o => o = om)).own w) (hx : ev L x = some (.pointer (some ⟨r, 0, none⟩))) (hvv : MoEl.val e.2 = vv) :
  Yd P ⟨dd, .entry x, ty, pos, af, g⟩ L w (.tuple #[.int .i64 e.1, vv]) := fun a h => by
 subst hvv
 obtain ⟨o, h1, h2, hc, D, cnt, hm, h3⟩ := hi
 obtain ⟨o', h4, rfl⟩ := hj
 have := (h3 w b r h2 h4 h1).2 e vs rfl
 simp [execOp, h _ _ hx, this, Result.andThen]
end steps
end Go.Proofs.YthdimlepjpnncaaGreat.Wk

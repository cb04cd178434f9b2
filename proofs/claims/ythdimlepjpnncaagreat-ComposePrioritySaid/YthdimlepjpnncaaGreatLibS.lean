/- Small words for plain programs: partial values (none: a panic, or no end), loops, reading and writing lists by Int indices. No Go program is named here. -/
import GoSem.Core.Lib
import Derived.Laws.Bits
import GoSem.ClaimData
namespace Go.Proofs.YthdimlepjpnncaaGreat.Sh
open Go

def ix {α : Type} (xs : List α) (i : Int) : Option α := if 0 ≤ i then xs[i.toNat]? else none
/-- a place in an array of n elements -/
def ixB (n : Nat) (i : Int) : Option Nat := if 0 ≤ i ∧ i < n then some i.toNat else none
/-- an element of a part that begins at lo and has n elements -/
def ixV {α : Type} (xs : List α) (lo : Int) (n : Nat) (j : Int) : Option α := if 0 ≤ j ∧ j < n then ix xs (lo + j) else none
def setM {α : Type} (xs : List α) (i : Int) (v : α) : Option (List α) := if 0 ≤ i ∧ i < xs.length then some (xs.set i.toNat v) else none
def remM (m n : Int) : Option Int := if n = 0 then none else some (m.tmod n)
def quoM (k : IntKind) (m n : Int) : Option Int := if n = 0 then none else some (k.wrap (m.tdiv n))
def shlM (k : IntKind) (m n : Int) : Option Int := if n < 0 then none else some (k.wrap (m * 2 ^ min n.toNat k.bits))
def shrM (k : IntKind) (m n : Int) : Option Int := if n < 0 then none else some (m.fdiv (2 ^ min n.toNat k.bits))
def subM {α : Type} (xs : List α) (lo hi : Int) : Option (List α) := if 0 ≤ lo ∧ lo ≤ hi ∧ hi ≤ xs.length then some ((xs.take hi.toNat).drop lo.toNat) else none
def appM {α : Type} (bytes : Nat) (xs ys : List α) : Option (List α) := if xs.length + ys.length ≤ maxLen ∧ (xs.length + ys.length) * bytes ≤ 140737488355328 then some (xs ++ ys) else none
def copyM {α : Type} (xs : List α) (lo hi : Int) (ys : List α) : List α := xs.take lo.toNat ++ ys.take (hi.toNat - lo.toNat) ++ xs.drop (lo.toNat + min ys.length (hi.toNat - lo.toNat))
def makeM {α : Type} (bytes : Nat) (z : α) (n : Int) : Option (List α) := if 0 ≤ n ∧ n ≤ 9223372036854775807 ∧ (bytes : Int) * n ≤ 140737488355328 then some (List.replicate n.toNat z) else none
def makeCM {α : Type} (bytes : Nat) (z : α) (n c : Int) : Option (List α) := if 0 ≤ n ∧ n ≤ c ∧ c ≤ 9223372036854775807 ∧ (bytes : Int) * c ≤ 140737488355328 then some (List.replicate n.toNat z) else none
def capM (bytes : Nat) (c : Int) : Option Unit := if 0 ≤ c ∧ c ≤ 9223372036854775807 ∧ (bytes : Int) * c ≤ 140737488355328 then some () else none
def appZ {α : Type} (bytes : Nat) (z : α) (xs : List α) (n : Int) : Option (List α) := if 0 < n ∧ (xs.length : Int) + n ≤ 9223372036854775807 ∧ ((xs.length : Int) + n) * bytes ≤ 140737488355328 then some (xs ++ List.replicate n.toNat z) else none
def byteAt (s : ByteArray) (i : Int) : Option Int := if 0 ≤ i then (s[i.toNat]?).map (fun c => (c.toNat : Int)) else none

def iterN {σ β : Type} (body : σ → Option (σ ⊕ β)) : Nat → σ → Option β
  | 0, _ => none
  | n + 1, s => match body s with
    | none => none
    | some (.inl s') => iterN body n s'
    | some (.inr b) => some b

theorem iterN_mono {σ β : Type} (body : σ → Option (σ ⊕ β)) : ∀ (n : Nat) (s : σ) (b : β), iterN body n s = some b → ∀ m, n ≤ m → iterN body m s = some b
  | 0, s, b, h, m, _ => by simp [iterN] at h
  | n + 1, s, b, h, m, hm => by
    obtain ⟨m, rfl⟩ : ∃ m', m = m' + 1 := ⟨m - 1, by omega⟩
    simp only [iterN] at h ⊢
    split at h
    · cases h
    · exact iterN_mono body n _ b h m (by omega)
    · exact h

open Classical in
noncomputable def whileM {σ β : Type} (body : σ → Option (σ ⊕ β)) (s : σ) : Option β :=
  if h : ∃ b, ∃ n, iterN body n s = some b then some (Classical.choose h) else none

theorem whileM_some {σ β : Type} {body : σ → Option (σ ⊕ β)} {s : σ} {b : β} : whileM body s = some b ↔ ∃ n, iterN body n s = some b := by
  unfold whileM
  constructor
  · intro h
    split at h
    · rename_i hh
      obtain ⟨n, hn⟩ := Classical.choose_spec hh
      exact ⟨n, by rw [hn]; exact h⟩
    · cases h
  · rintro ⟨n, hn⟩
    have hh : ∃ b, ∃ n, iterN body n s = some b := ⟨b, n, hn⟩
    rw [dif_pos hh]
    obtain ⟨m, hm⟩ := Classical.choose_spec hh
    have h1 := iterN_mono body n s b hn (max n m) (Nat.le_max_left _ _)
    have h2 := iterN_mono body m s _ hm (max n m) (Nat.le_max_right _ _)
    rw [h1] at h2
    exact h2.symm

/-- One round. -/
theorem whileM_eq {σ β : Type} (body : σ → Option (σ ⊕ β)) (s : σ) : whileM body s = (body s).bind (fun r => match r with | .inl s' => whileM body s' | .inr b => some b) := by
  apply Option.ext
  intro b
  constructor
  · intro h
    obtain ⟨n, hn⟩ := whileM_some.1 h
    cases n with
    | zero => simp [iterN] at hn
    | succ n =>
      simp only [iterN] at hn
      cases hb : body s with
      | none => rw [hb] at hn; cases hn
      | some r =>
        rw [hb] at hn
        cases r with
        | inl s' => exact whileM_some.2 ⟨n, hn⟩
        | inr b' => exact hn
  · intro h
    cases hb : body s with
    | none => rw [hb] at h; cases h
    | some r =>
      rw [hb] at h
      cases r with
      | inl s' =>
        obtain ⟨n, hn⟩ := whileM_some.1 (show whileM body s' = some b from h)
        exact whileM_some.2 ⟨n + 1, by simp only [iterN, hb]; exact hn⟩
      | inr b' => exact whileM_some.2 ⟨1, by simp only [iterN, hb]; exact h⟩

/-- A loop by an invariant and a measure: it ends, and in a state that P tells. -/
theorem whileM_inv {σ β : Type} {body : σ → Option (σ ⊕ β)} (I : σ → Prop) (μ : σ → Nat) (Q : β → Prop)
    (step : ∀ s, I s → (∃ s', body s = some (.inl s') ∧ I s' ∧ μ s' < μ s) ∨ (∃ b, body s = some (.inr b) ∧ Q b)) : ∀ (s : σ), I s → ∃ b, whileM body s = some b ∧ Q b := by
  have key : ∀ n s, μ s = n → I s → ∃ b, whileM body s = some b ∧ Q b := by
    intro n
    induction n using Nat.strongRecOn with
    | _ n ih =>
      intro s hn hI
      rw [whileM_eq]
      rcases step s hI with ⟨s', hb, hI', hlt⟩ | ⟨b, hb, hq⟩
      · rw [hb]; exact ih (μ s') (by omega) s' rfl hI'
      · rw [hb]; exact ⟨b, rfl, hq⟩
  exact fun s hI => key _ s rfl hI

theorem bind_t {α β : Type} {m : Option α} {f : α → Option β} {r : β} (h : m.bind f = some r) : ∃ x, m = some x ∧ f x = some r := by
  cases m with
  | none => cases h
  | some x => exact ⟨x, rfl, h⟩
theorem ite_t {α : Type} {b : Bool} {x y : α} {r : α} (h : (if b = true then x else y) = r) (hb : b = true) : x = r := by rw [if_pos hb] at h; exact h
theorem ite_f {α : Type} {b : Bool} {x y : α} {r : α} (h : (if b = true then x else y) = r) (hb : b = false) : y = r := by rw [if_neg (by simp [hb])] at h; exact h

theorem map_t {α β : Type} {m : Option α} {f : α → β} {r : β} (h : m.map f = some r) : ∃ x, m = some x ∧ f x = r := by
  cases m with
  | none => cases h
  | some x => exact ⟨x, rfl, Option.some.inj h⟩
abbrev w64 (x : Int) : Int := IntKind.i64.wrap x

theorem ixV_t {α : Type} {xs : List α} {lo : Int} {n : Nat} {j : Int} {x : α} (h : ixV xs lo n j = some x) : 0 ≤ j ∧ j < n ∧ ix xs (lo + j) = some x := by
  unfold ixV at h
  split at h
  · rename_i h0
    exact ⟨h0.1, h0.2, h⟩
  · cases h
theorem ixB_t {n : Nat} {i : Int} {q : Nat} (h : ixB n i = some q) : 0 ≤ i ∧ i < n ∧ i.toNat = q ∧ q < n := by
  unfold ixB at h
  split at h
  · rename_i h0
    cases h
    omega
  · cases h
theorem ix_t {α : Type} {xs : List α} {i : Int} {x : α} (h : ix xs i = some x) : 0 ≤ i ∧ i < xs.length ∧ xs[i.toNat]? = some x := by
  unfold ix at h
  split at h
  · rename_i h0
    have := (List.getElem?_eq_some_iff.1 h).1
    exact ⟨h0, by omega, h⟩
  · cases h
theorem setM_t {α : Type} {xs ys : List α} {i : Int} {v : α} (h : setM xs i v = some ys) : (0 ≤ i ∧ i < xs.length) ∧ ys = xs.set i.toNat v := by
  unfold setM at h
  split at h
  · rename_i h0; exact ⟨h0, by simpa using h.symm⟩
  · cases h
theorem remM_t {m n r : Int} (h : remM m n = some r) : n ≠ 0 ∧ m.tmod n = r := by
  unfold remM at h
  split at h
  · cases h
  · rename_i h0; exact ⟨h0, by simpa using h⟩
theorem quoM_t {k : IntKind} {m n r : Int} (h : quoM k m n = some r) : n ≠ 0 ∧ k.wrap (m.tdiv n) = r := by
  unfold quoM at h
  split at h
  · cases h
  · rename_i h0; exact ⟨h0, by simpa using h⟩
theorem shlM_t {k : IntKind} {m n r : Int} (h : shlM k m n = some r) : ¬ n < 0 ∧ k.wrap (m * 2 ^ min n.toNat k.bits) = r := by
  unfold shlM at h
  split at h
  · cases h
  · rename_i h0; exact ⟨h0, by simpa using h⟩
theorem shrM_t {k : IntKind} {m n r : Int} (h : shrM k m n = some r) : ¬ n < 0 ∧ m.fdiv (2 ^ min n.toNat k.bits) = r := by
  unfold shrM at h
  split at h
  · cases h
  · rename_i h0; exact ⟨h0, by simpa using h⟩
theorem subM_t {α : Type} {xs ys : List α} {lo hi : Int} (h : subM xs lo hi = some ys) : (0 ≤ lo ∧ lo ≤ hi ∧ hi ≤ xs.length) ∧ ys = (xs.take hi.toNat).drop lo.toNat := by
  unfold subM at h
  split at h
  · rename_i h0; exact ⟨h0, by simpa using h.symm⟩
  · cases h
theorem appM_t {α : Type} {bytes : Nat} {xs ys zs : List α} (h : appM bytes xs ys = some zs) : (xs.length + ys.length ≤ maxLen ∧ (xs.length + ys.length) * bytes ≤ 140737488355328) ∧ zs = xs ++ ys := by
  unfold appM at h
  split at h
  · rename_i h0; exact ⟨h0, by simpa using h.symm⟩
  · cases h
theorem makeM_t {α : Type} {bytes : Nat} {z : α} {n : Int} {zs : List α} (h : makeM bytes z n = some zs) : (0 ≤ n ∧ n ≤ 9223372036854775807 ∧ (bytes : Int) * n ≤ 140737488355328) ∧ zs = List.replicate n.toNat z := by
  unfold makeM at h
  split at h
  · rename_i h0; exact ⟨h0, by simpa using h.symm⟩
  · cases h
theorem appZ_t {α : Type} {bytes : Nat} {z : α} {xs zs : List α} {n : Int} (h : appZ bytes z xs n = some zs) : (0 < n ∧ (xs.length : Int) + n ≤ 9223372036854775807 ∧ ((xs.length : Int) + n) * bytes ≤ 140737488355328) ∧ zs = xs ++ List.replicate n.toNat z := by
  unfold appZ at h
  split at h
  · rename_i h0; exact ⟨h0, by simpa using h.symm⟩
  · cases h
theorem byteAt_t {s : ByteArray} {i x : Int} (h : byteAt s i = some x) : 0 ≤ i ∧ ∃ c, s[i.toNat]? = some c ∧ x = (c.toNat : Int) := by
  unfold byteAt at h
  split at h
  · rename_i h0
    cases hc : s[i.toNat]? with
    | none => rw [hc] at h; cases h
    | some c => rw [hc] at h; exact ⟨h0, c, rfl, by simpa using h.symm⟩
  · cases h

/-- a map by integer keys: a bound for how many keys it has, and what stands at each (what the type's zero is, where there is none) -/
structure Mp (α : Type) where
  n : Nat
  at_ : Int → α
/-- elements that a map may have -/
class MpEl (α : Type) where
  lit : α → Lit
  val : α → Value
  ok : α → Bool
instance : MpEl Int where
  lit := fun x => .int .i64 x
  val := fun x => .int .i64 x
  ok := fun x => decide (-9223372036854775808 ≤ x) && decide (x ≤ 9223372036854775807)
instance : MpEl Bool where
  lit := fun x => .bool x
  val := fun x => .bool x
  ok := fun _ => true
noncomputable def Mp.get {α : Type} (m : Mp α) (x : Int) : Option α := if -9223372036854775808 ≤ x ∧ x ≤ 9223372036854775807 then some (m.at_ x) else none
noncomputable def Mp.put {α : Type} [MpEl α] (m : Mp α) (x : Int) (v : α) : Option (Mp α) :=
  if (-9223372036854775808 ≤ x ∧ x ≤ 9223372036854775807) ∧ m.n < 1000000000000 ∧ MpEl.ok v = true then some ⟨m.n + 1, fun y => if y = x then v else m.at_ y⟩ else none
theorem Mp.get_t {α : Type} {m : Mp α} {x : Int} {v : α} (h : m.get x = some v) : (-9223372036854775808 ≤ x ∧ x ≤ 9223372036854775807) ∧ m.at_ x = v := by
  unfold Mp.get at h
  split at h
  · rename_i h0; exact ⟨h0, by simpa using h⟩
  · cases h
theorem Mp.put_t {α : Type} [MpEl α] {m m' : Mp α} {x : Int} {v : α} (h : m.put x v = some m') : ((-9223372036854775808 ≤ x ∧ x ≤ 9223372036854775807) ∧ m.n < 1000000000000 ∧ MpEl.ok v = true) ∧ m' = ⟨m.n + 1, fun y => if y = x then v else m.at_ y⟩ := by
  unfold Mp.put at h
  split at h
  · rename_i h0; exact ⟨h0, by simpa using h.symm⟩
  · cases h

end Go.Proofs.YthdimlepjpnncaaGreat.Sh

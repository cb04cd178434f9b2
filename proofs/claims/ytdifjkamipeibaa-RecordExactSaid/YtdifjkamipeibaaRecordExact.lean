/- The statement RecordExact holds: the law returns true at every input, and its arguments read as before. -/
import Derived.Test.YtdifjkamipeibaaRows
import Derived.Test.YtdifjkamipeibaaWRecordExact5
import Derived.Test.YtdifjkamipeibaaRecordExactLaw
import Derived.Test.YtdifjkamipeibaaLibG
import Derived.Test.YtdifjkamipeibaaLibH
import Derived.KernelRfl
namespace Go.Proofs.Ytdifjkamipeibaa.recordExact
open Go Go.RowKit Go.Proofs Go.Proofs.Ytdifjkamipeibaa.Sh Go.Proofs.Ytdifjkamipeibaa.Wk
open Go.ChangeShapes Go.WideShapes Go.ChangeAt
set_option linter.unusedVariables false

theorem own : ownKnob Try.prog.godebug = none := by kernel_rfl
theorem laidOut : laidOutB Try.prog = true := by kernel_rfl

set_option maxRecDepth 100000 in
theorem lifted (os : Os) (started : os.Started) (H : Type) (enc : TypeId × Value → H) :
    ReturnsInHanded {} Try.checked os 6 .any (Rows.recordExactSpec.pre6 enc Try.prog Try.f6 Rows.recordExactRow.domain false) (Rows.recordExactSpec.post enc Try.prog Try.f6 false true false false) := by
  refine returnsInHanded_of_change (C := Try.checked) own started (by kernel_rfl) Try.func6
    (ChangeSpec.witness6 (enc := enc) (C := Try.checked) false ⟨#[], #[.slice none 0 0, .agg #[.string ⟨#[]⟩, .string ⟨#[]⟩, .string ⟨#[]⟩, .string ⟨#[]⟩, .int .i64 0, .int .i64 0, .int .i64 0, .int .i64 0, .int .i64 0, .int .i64 0, .int .i64 0, .slice none 0 0], .int .i64 0, .int .i64 0, .int .i64 0], []⟩ 8 (by kernel_rfl) (by kernel_rfl) (by kernel_rfl) (by kernel_rfl)) ?_
  intro W base args ds gs before hval0 hW hcnd _
  have hval : ∀ (j : Nat) t v, Try.f6.params[j]? = some t → args[j]? = some v → Value.okWide Try.prog W .any base t v := hval0
  have hW' := hW
  obtain ⟨p, q, hA0, hV, rfl, hfz, hnd⟩ := hW
  have hA : DataW.TrodAll enc Try.prog W 0 (fun _ => true) true Try.f6.params.toList args.toList ds p := hA0
  rw [Try.params6] at hA hval
  obtain ⟨v0, vs0, d0, ds0, p0, q0, hargs, rfl, rfl, h0, r0⟩ := trodAll_cons hA
  obtain ⟨v1, vs1, d1, ds1, p1, q1, rfl, rfl, rfl, h1, r1⟩ := trodAll_cons r0
  obtain ⟨v2, vs2, d2, ds2, p2, q2, rfl, rfl, rfl, h2, r2⟩ := trodAll_cons r1
  obtain ⟨v3, vs3, d3, ds3, p3, q3, rfl, rfl, rfl, h3, r3⟩ := trodAll_cons r2
  obtain ⟨v4, vs4, d4, ds4, p4, q4, rfl, rfl, rfl, h4, r4⟩ := trodAll_cons r3
  obtain ⟨rfl, rfl, rfl⟩ := trodAll_nil r4
  obtain rfl : args = #[v0, v1, v2, v3, v4] := by cases args; simp_all
  obtain ⟨rfl, rfl⟩ := trodVars_none hV
  obtain ⟨a0, len0, cap0, rfl⟩ := okWide_slice Try.underlying22 (hval 0 22 v0 rfl rfl)
  have k0 := h0
  have lt0 : ∀ x ∈ p0, x.block < W.heap.size := by obtain ⟨m, hm⟩ := k0; exact DataW.trod_lt m _ _ _ hm
  obtain ⟨l0, rfl, s0, b0⟩ : ∃ l : List Int, len0 = l.length ∧ (SlA a0 l.length cap0 l).p (fun b => b < W.heap.size) W ∧ ∀ n ∈ l, -9223372036854775808 ≤ n ∧ n ≤ 9223372036854775807 := by
    obtain ⟨fuel, hf⟩ := k0
    exact open_list Try.underlying22 Try.underlying3 (by kernel_rfl) (hval 0 22 _ rfl rfl) hf
  obtain ⟨z1_0, rfl, y1_0, g1⟩ := okWide_cells Try.underlying32 (hval 1 32 v1 rfl rfl) (n := 12) (by kernel_rfl) (ts := [9, 9, 9, 9, 3, 3, 3, 3, 3, 3, 3, 22]) (by kernel_rfl) rfl
  obtain ⟨c1_0, z1_1, rfl, y1_1⟩ := peel y1_0
  obtain ⟨c1_1, z1_2, rfl, y1_2⟩ := peel y1_1
  obtain ⟨c1_2, z1_3, rfl, y1_3⟩ := peel y1_2
  obtain ⟨c1_3, z1_4, rfl, y1_4⟩ := peel y1_3
  obtain ⟨c1_4, z1_5, rfl, y1_5⟩ := peel y1_4
  obtain ⟨c1_5, z1_6, rfl, y1_6⟩ := peel y1_5
  obtain ⟨c1_6, z1_7, rfl, y1_7⟩ := peel y1_6
  obtain ⟨c1_7, z1_8, rfl, y1_8⟩ := peel y1_7
  obtain ⟨c1_8, z1_9, rfl, y1_9⟩ := peel y1_8
  obtain ⟨c1_9, z1_10, rfl, y1_10⟩ := peel y1_9
  obtain ⟨c1_10, z1_11, rfl, y1_11⟩ := peel y1_10
  obtain ⟨c1_11, z1_12, rfl, y1_12⟩ := peel y1_11
  obtain rfl := peel0 y1_12
  obtain ⟨e1_0, rfl, bs1_0⟩ := cell_string Try.underlying9 (g1 0 _ 9 rfl rfl)
  obtain ⟨e1_1, rfl, bs1_1⟩ := cell_string Try.underlying9 (g1 1 _ 9 rfl rfl)
  obtain ⟨e1_2, rfl, bs1_2⟩ := cell_string Try.underlying9 (g1 2 _ 9 rfl rfl)
  obtain ⟨e1_3, rfl, bs1_3⟩ := cell_string Try.underlying9 (g1 3 _ 9 rfl rfl)
  obtain ⟨e1_4, rfl, b1_4⟩ := cell_int Try.underlying3 (g1 4 _ 3 rfl rfl)
  obtain ⟨e1_5, rfl, b1_5⟩ := cell_int Try.underlying3 (g1 5 _ 3 rfl rfl)
  obtain ⟨e1_6, rfl, b1_6⟩ := cell_int Try.underlying3 (g1 6 _ 3 rfl rfl)
  obtain ⟨e1_7, rfl, b1_7⟩ := cell_int Try.underlying3 (g1 7 _ 3 rfl rfl)
  obtain ⟨e1_8, rfl, b1_8⟩ := cell_int Try.underlying3 (g1 8 _ 3 rfl rfl)
  obtain ⟨e1_9, rfl, b1_9⟩ := cell_int Try.underlying3 (g1 9 _ 3 rfl rfl)
  obtain ⟨e1_10, rfl, b1_10⟩ := cell_int Try.underlying3 (g1 10 _ 3 rfl rfl)
  obtain ⟨a1_11, n1_11, k1_11, rfl, w1_11⟩ := cell_slice Try.underlying22 (g1 11 _ 22 rfl rfl)
  have k1 := h1
  have lt1 : ∀ x ∈ p1, x.block < W.heap.size := by obtain ⟨m, hm⟩ := k1; exact DataW.trod_lt m _ _ _ hm
  obtain ⟨f1, hf1⟩ := k1
  have hf1 : DataW.trod enc Try.prog W 0 (fun _ => true) true f1 32 [.string e1_0, .string e1_1, .string e1_2, .string e1_3, .int .i64 e1_4, .int .i64 e1_5, .int .i64 e1_6, .int .i64 e1_7, .int .i64 e1_8, .int .i64 e1_9, .int .i64 e1_10, .slice a1_11 n1_11 k1_11] = some (d1, p1) := hf1
  obtain ⟨fm1_11_0, ym1_11_0, m1_11_0⟩ := trod_field Try.underlying32 hf1 (i := 7) rfl (ft := 22) (o := 11) (n := 1) rfl rfl (by kernel_rfl)
  obtain ⟨l1_11, rfl, s1_11, b1_11⟩ : ∃ l : List Int, n1_11 = l.length ∧ (SlA a1_11 l.length k1_11 l).p (fun b => b < W.heap.size) W ∧ ∀ n ∈ l, -9223372036854775808 ≤ n ∧ n ≤ 9223372036854775807 :=
    open_list Try.underlying22 Try.underlying3 (by kernel_rfl) w1_11 m1_11_0
  obtain ⟨a2, rfl, rfl, rfl, w2⟩ := open_int Try.underlying3 (hval 2 3 v2 rfl rfl) h2
  have b2 : -9223372036854775808 ≤ a2 ∧ a2 ≤ 9223372036854775807 := by simpa [Lit.wf, IntKind.min, IntKind.max, IntKind.signed, IntKind.bits] using w2
  obtain ⟨a3, rfl, rfl, rfl, w3⟩ := open_int Try.underlying3 (hval 3 3 v3 rfl rfl) h3
  have b3 : -9223372036854775808 ≤ a3 ∧ a3 ≤ 9223372036854775807 := by simpa [Lit.wf, IntKind.min, IntKind.max, IntKind.signed, IntKind.bits] using w3
  obtain ⟨a4, rfl, rfl, rfl, w4⟩ := open_int Try.underlying3 (hval 4 3 v4 rfl rfl) h4
  have b4 : -9223372036854775808 ≤ a4 ∧ a4 ≤ 9223372036854775807 := by simpa [Lit.wf, IntKind.min, IntKind.max, IntKind.signed, IntKind.bits] using w4
  clear hA0 hval0
  refine (law14_RecordExact_ok (w0 := W) (S0 := fun b => b < W.heap.size) (law14_RecordExact_true l0 (⟨(⟨e1_0, e1_1, e1_2, e1_3⟩ : SourceID), e1_4, e1_5, (⟨e1_6, e1_7⟩ : Rate), e1_8, e1_9, e1_10, l1_11⟩ : Record) a2 a3 a4 bs1_0 bs1_1 bs1_2 bs1_3) (fun _ h => h) s0 s1_11).mono fun e W' ⟨v, S', he, hp, hv⟩ => ?_
  subst he
  have hv : v = .bool true := hv
  subst hv
  have bel := hp.below
  exact ⟨_, rfl, _, _, _, [], _, [], hW', trodAll_mk1 (shut_bool Try.underlying4 _), (trodAll_cons_mk (Below.trod laidOut (by kernel_rfl) (of_decide_eq_true (by kernel_rfl)) k0 bel lt0) (trodAll_cons_mk (Below.trod laidOut (by kernel_rfl) (of_decide_eq_true (by kernel_rfl)) ⟨f1, hf1⟩ bel lt1) (trodAll_cons_mk (shut_int Try.underlying3 w2) (trodAll_cons_mk (shut_int Try.underlying3 w3) (trodAll_cons_mk (shut_int Try.underlying3 w4) trodAll_mk0))))), rfl, bel.frame _, fun h => by cases h⟩

theorem over : Rows.recordExactRow.holds Try.pinned (OpenSpec.ofChange Rows.recordExactSpec) :=
  OpenClaim.holds_of_wide 6 Try.f6 rfl rfl rfl rfl rfl rfl rfl ⟨rfl, rfl, rfl, rfl, rfl⟩ rfl rfl rfl rfl rfl (by kernel_rfl) Try.func6 (by kernel_rfl)
    (of_decide_eq_true (by kernel_rfl)) (by unfold Func.isWrapper; first | (rw [if_pos (by decide +kernel)]; kernel_rfl) | (rw [if_neg (by decide +kernel)]; exact ⟨rfl, rfl⟩))
    (fun os started H enc _ => lifted os started H enc)

theorem proved : Rows.RecordExactSaid := over
end Go.Proofs.Ytdifjkamipeibaa.recordExact

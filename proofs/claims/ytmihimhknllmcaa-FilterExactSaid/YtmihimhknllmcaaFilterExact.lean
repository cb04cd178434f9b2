/- The statement FilterExact holds: the law returns true at every input, and its arguments read as before. -/
import Derived.Test.YtmihimhknllmcaaRows
import Derived.Test.YtmihimhknllmcaaWFilterExact4
import Derived.Test.YtmihimhknllmcaaFilterExactLaw
import Derived.Test.YtmihimhknllmcaaLibG
import Derived.Test.YtmihimhknllmcaaLibH
import Derived.KernelRfl
namespace Go.Proofs.Ytmihimhknllmcaa.filterExact
open Go Go.RowKit Go.Proofs Go.Proofs.Ytmihimhknllmcaa.Sh Go.Proofs.Ytmihimhknllmcaa.Wk
open Go.ChangeShapes Go.WideShapes Go.ChangeAt
set_option linter.unusedVariables false

theorem own : ownKnob Try.prog.godebug = none := by kernel_rfl
theorem laidOut : laidOutB Try.prog = true := by kernel_rfl

set_option maxRecDepth 100000 in
theorem lifted (os : Os) (started : os.Started) (H : Type) (enc : TypeId × Value → H) :
    ReturnsInHanded {} Try.checked os 9 .any (Rows.filterExactSpec.pre6 enc Try.prog Try.f9 Rows.filterExactRow.domain false) (Rows.filterExactSpec.post enc Try.prog Try.f9 false true false false) := by
  refine returnsInHanded_of_change (C := Try.checked) own started (by kernel_rfl) Try.func9
    (ChangeSpec.witness6 (enc := enc) (C := Try.checked) false ⟨#[], #[.slice none 0 0, .agg #[.slice none 0 0, .int .i64 0, .int .i64 0], .slice none 0 0, .int .i64 0, .agg #[.slice none 0 0, .int .i64 0, .int .i64 0, .slice none 0 0, .int .i64 0], .agg #[.int .i64 0, .int .i64 0, .int .i64 0, .int .i64 0, .int .i64 0, .int .i64 0, .int .i64 0, .slice none 0 0, .int .i64 0, .int .i64 0]], []⟩ 8 (by kernel_rfl) (by kernel_rfl) (by kernel_rfl) (by kernel_rfl)) ?_
  intro W base args ds gs before hval0 hW hcnd _
  have hval : ∀ (j : Nat) t v, Try.f9.params[j]? = some t → args[j]? = some v → Value.okWide Try.prog W .any base t v := hval0
  have hW' := hW
  obtain ⟨p, q, hA0, hV, rfl, hfz, hnd⟩ := hW
  have hA : DataW.TrodAll enc Try.prog W 0 (fun _ => true) true Try.f9.params.toList args.toList ds p := hA0
  rw [Try.params9] at hA hval
  obtain ⟨v0, vs0, d0, ds0, p0, q0, hargs, rfl, rfl, h0, r0⟩ := trodAll_cons hA
  obtain ⟨v1, vs1, d1, ds1, p1, q1, rfl, rfl, rfl, h1, r1⟩ := trodAll_cons r0
  obtain ⟨v2, vs2, d2, ds2, p2, q2, rfl, rfl, rfl, h2, r2⟩ := trodAll_cons r1
  obtain ⟨v3, vs3, d3, ds3, p3, q3, rfl, rfl, rfl, h3, r3⟩ := trodAll_cons r2
  obtain ⟨v4, vs4, d4, ds4, p4, q4, rfl, rfl, rfl, h4, r4⟩ := trodAll_cons r3
  obtain ⟨v5, vs5, d5, ds5, p5, q5, rfl, rfl, rfl, h5, r5⟩ := trodAll_cons r4
  obtain ⟨rfl, rfl, rfl⟩ := trodAll_nil r5
  obtain rfl : args = #[v0, v1, v2, v3, v4, v5] := by cases args; simp_all
  obtain ⟨rfl, rfl⟩ := trodVars_none hV
  obtain ⟨a0, len0, cap0, rfl⟩ := okWide_slice Try.underlying22 (hval 0 22 v0 rfl rfl)
  have k0 := h0
  have lt0 : ∀ x ∈ p0, x.block < W.heap.size := by obtain ⟨m, hm⟩ := k0; exact DataW.trod_lt m _ _ _ hm
  obtain ⟨l0, rfl, s0, b0⟩ : ∃ l : List Int, len0 = l.length ∧ (SlA a0 l.length cap0 l).p (fun b => b < W.heap.size) W ∧ ∀ n ∈ l, -9223372036854775808 ≤ n ∧ n ≤ 9223372036854775807 := by
    obtain ⟨fuel, hf⟩ := k0
    exact open_list Try.underlying22 Try.underlying3 (by kernel_rfl) (hval 0 22 _ rfl rfl) hf
  obtain ⟨z1_0, rfl, y1_0, g1⟩ := okWide_cells Try.underlying28 (hval 1 28 v1 rfl rfl) (n := 3) (by kernel_rfl) (ts := [22, 3, 3]) (by kernel_rfl) rfl
  obtain ⟨c1_0, z1_1, rfl, y1_1⟩ := peel y1_0
  obtain ⟨c1_1, z1_2, rfl, y1_2⟩ := peel y1_1
  obtain ⟨c1_2, z1_3, rfl, y1_3⟩ := peel y1_2
  obtain rfl := peel0 y1_3
  obtain ⟨a1_0, n1_0, k1_0, rfl, w1_0⟩ := cell_slice Try.underlying22 (g1 0 _ 22 rfl rfl)
  obtain ⟨e1_1, rfl, b1_1⟩ := cell_int Try.underlying3 (g1 1 _ 3 rfl rfl)
  obtain ⟨e1_2, rfl, b1_2⟩ := cell_int Try.underlying3 (g1 2 _ 3 rfl rfl)
  have k1 := h1
  have lt1 : ∀ x ∈ p1, x.block < W.heap.size := by obtain ⟨m, hm⟩ := k1; exact DataW.trod_lt m _ _ _ hm
  obtain ⟨f1, hf1⟩ := k1
  have hf1 : DataW.trod enc Try.prog W 0 (fun _ => true) true f1 28 [.slice a1_0 n1_0 k1_0, .int .i64 e1_1, .int .i64 e1_2] = some (d1, p1) := hf1
  obtain ⟨fm1_0_0, ym1_0_0, m1_0_0⟩ := trod_field Try.underlying28 hf1 (i := 0) rfl (ft := 22) (o := 0) (n := 1) rfl rfl (by kernel_rfl)
  obtain ⟨l1_0, rfl, s1_0, b1_0⟩ : ∃ l : List Int, n1_0 = l.length ∧ (SlA a1_0 l.length k1_0 l).p (fun b => b < W.heap.size) W ∧ ∀ n ∈ l, -9223372036854775808 ≤ n ∧ n ≤ 9223372036854775807 :=
    open_list Try.underlying22 Try.underlying3 (by kernel_rfl) w1_0 m1_0_0
  obtain ⟨a2, len2, cap2, rfl⟩ := okWide_slice Try.underlying22 (hval 2 22 v2 rfl rfl)
  have k2 := h2
  have lt2 : ∀ x ∈ p2, x.block < W.heap.size := by obtain ⟨m, hm⟩ := k2; exact DataW.trod_lt m _ _ _ hm
  obtain ⟨l2, rfl, s2, b2⟩ : ∃ l : List Int, len2 = l.length ∧ (SlA a2 l.length cap2 l).p (fun b => b < W.heap.size) W ∧ ∀ n ∈ l, -9223372036854775808 ≤ n ∧ n ≤ 9223372036854775807 := by
    obtain ⟨fuel, hf⟩ := k2
    exact open_list Try.underlying22 Try.underlying3 (by kernel_rfl) (hval 2 22 _ rfl rfl) hf
  obtain ⟨a3, rfl, rfl, rfl, w3⟩ := open_int Try.underlying3 (hval 3 3 v3 rfl rfl) h3
  have b3 : -9223372036854775808 ≤ a3 ∧ a3 ≤ 9223372036854775807 := by simpa [Lit.wf, IntKind.min, IntKind.max, IntKind.signed, IntKind.bits] using w3
  obtain ⟨z4_0, rfl, y4_0, g4⟩ := okWide_cells Try.underlying51 (hval 4 51 v4 rfl rfl) (n := 5) (by kernel_rfl) (ts := [22, 3, 3, 22, 3]) (by kernel_rfl) rfl
  obtain ⟨c4_0, z4_1, rfl, y4_1⟩ := peel y4_0
  obtain ⟨c4_1, z4_2, rfl, y4_2⟩ := peel y4_1
  obtain ⟨c4_2, z4_3, rfl, y4_3⟩ := peel y4_2
  obtain ⟨c4_3, z4_4, rfl, y4_4⟩ := peel y4_3
  obtain ⟨c4_4, z4_5, rfl, y4_5⟩ := peel y4_4
  obtain rfl := peel0 y4_5
  obtain ⟨a4_0, n4_0, k4_0, rfl, w4_0⟩ := cell_slice Try.underlying22 (g4 0 _ 22 rfl rfl)
  obtain ⟨e4_1, rfl, b4_1⟩ := cell_int Try.underlying3 (g4 1 _ 3 rfl rfl)
  obtain ⟨e4_2, rfl, b4_2⟩ := cell_int Try.underlying3 (g4 2 _ 3 rfl rfl)
  obtain ⟨a4_3, n4_3, k4_3, rfl, w4_3⟩ := cell_slice Try.underlying22 (g4 3 _ 22 rfl rfl)
  obtain ⟨e4_4, rfl, b4_4⟩ := cell_int Try.underlying3 (g4 4 _ 3 rfl rfl)
  have k4 := h4
  have lt4 : ∀ x ∈ p4, x.block < W.heap.size := by obtain ⟨m, hm⟩ := k4; exact DataW.trod_lt m _ _ _ hm
  obtain ⟨f4, hf4⟩ := k4
  have hf4 : DataW.trod enc Try.prog W 0 (fun _ => true) true f4 51 [.slice a4_0 n4_0 k4_0, .int .i64 e4_1, .int .i64 e4_2, .slice a4_3 n4_3 k4_3, .int .i64 e4_4] = some (d4, p4) := hf4
  obtain ⟨fm4_0_0, ym4_0_0, m4_0_0⟩ := trod_field Try.underlying51 hf4 (i := 0) rfl (ft := 28) (o := 0) (n := 3) rfl rfl (by kernel_rfl)
  obtain ⟨fm4_0_1, ym4_0_1, m4_0_1⟩ := trod_field Try.underlying28 m4_0_0 (i := 0) rfl (ft := 22) (o := 0) (n := 1) rfl rfl (by kernel_rfl)
  obtain ⟨l4_0, rfl, s4_0, b4_0⟩ : ∃ l : List Int, n4_0 = l.length ∧ (SlA a4_0 l.length k4_0 l).p (fun b => b < W.heap.size) W ∧ ∀ n ∈ l, -9223372036854775808 ≤ n ∧ n ≤ 9223372036854775807 :=
    open_list Try.underlying22 Try.underlying3 (by kernel_rfl) w4_0 m4_0_1
  obtain ⟨fm4_3_0, ym4_3_0, m4_3_0⟩ := trod_field Try.underlying51 hf4 (i := 1) rfl (ft := 22) (o := 3) (n := 1) rfl rfl (by kernel_rfl)
  obtain ⟨l4_3, rfl, s4_3, b4_3⟩ : ∃ l : List Int, n4_3 = l.length ∧ (SlA a4_3 l.length k4_3 l).p (fun b => b < W.heap.size) W ∧ ∀ n ∈ l, -9223372036854775808 ≤ n ∧ n ≤ 9223372036854775807 :=
    open_list Try.underlying22 Try.underlying3 (by kernel_rfl) w4_3 m4_3_0
  obtain ⟨z5_0, rfl, y5_0, g5⟩ := okWide_cells Try.underlying45 (hval 5 45 v5 rfl rfl) (n := 10) (by kernel_rfl) (ts := [3, 3, 3, 3, 3, 3, 3, 22, 3, 3]) (by kernel_rfl) rfl
  obtain ⟨c5_0, z5_1, rfl, y5_1⟩ := peel y5_0
  obtain ⟨c5_1, z5_2, rfl, y5_2⟩ := peel y5_1
  obtain ⟨c5_2, z5_3, rfl, y5_3⟩ := peel y5_2
  obtain ⟨c5_3, z5_4, rfl, y5_4⟩ := peel y5_3
  obtain ⟨c5_4, z5_5, rfl, y5_5⟩ := peel y5_4
  obtain ⟨c5_5, z5_6, rfl, y5_6⟩ := peel y5_5
  obtain ⟨c5_6, z5_7, rfl, y5_7⟩ := peel y5_6
  obtain ⟨c5_7, z5_8, rfl, y5_8⟩ := peel y5_7
  obtain ⟨c5_8, z5_9, rfl, y5_9⟩ := peel y5_8
  obtain ⟨c5_9, z5_10, rfl, y5_10⟩ := peel y5_9
  obtain rfl := peel0 y5_10
  obtain ⟨e5_0, rfl, b5_0⟩ := cell_int Try.underlying3 (g5 0 _ 3 rfl rfl)
  obtain ⟨e5_1, rfl, b5_1⟩ := cell_int Try.underlying3 (g5 1 _ 3 rfl rfl)
  obtain ⟨e5_2, rfl, b5_2⟩ := cell_int Try.underlying3 (g5 2 _ 3 rfl rfl)
  obtain ⟨e5_3, rfl, b5_3⟩ := cell_int Try.underlying3 (g5 3 _ 3 rfl rfl)
  obtain ⟨e5_4, rfl, b5_4⟩ := cell_int Try.underlying3 (g5 4 _ 3 rfl rfl)
  obtain ⟨e5_5, rfl, b5_5⟩ := cell_int Try.underlying3 (g5 5 _ 3 rfl rfl)
  obtain ⟨e5_6, rfl, b5_6⟩ := cell_int Try.underlying3 (g5 6 _ 3 rfl rfl)
  obtain ⟨a5_7, n5_7, k5_7, rfl, w5_7⟩ := cell_slice Try.underlying22 (g5 7 _ 22 rfl rfl)
  obtain ⟨e5_8, rfl, b5_8⟩ := cell_int Try.underlying3 (g5 8 _ 3 rfl rfl)
  obtain ⟨e5_9, rfl, b5_9⟩ := cell_int Try.underlying3 (g5 9 _ 3 rfl rfl)
  have k5 := h5
  have lt5 : ∀ x ∈ p5, x.block < W.heap.size := by obtain ⟨m, hm⟩ := k5; exact DataW.trod_lt m _ _ _ hm
  obtain ⟨f5, hf5⟩ := k5
  have hf5 : DataW.trod enc Try.prog W 0 (fun _ => true) true f5 45 [.int .i64 e5_0, .int .i64 e5_1, .int .i64 e5_2, .int .i64 e5_3, .int .i64 e5_4, .int .i64 e5_5, .int .i64 e5_6, .slice a5_7 n5_7 k5_7, .int .i64 e5_8, .int .i64 e5_9] = some (d5, p5) := hf5
  obtain ⟨fm5_7_0, ym5_7_0, m5_7_0⟩ := trod_field Try.underlying45 hf5 (i := 3) rfl (ft := 22) (o := 7) (n := 1) rfl rfl (by kernel_rfl)
  obtain ⟨l5_7, rfl, s5_7, b5_7⟩ : ∃ l : List Int, n5_7 = l.length ∧ (SlA a5_7 l.length k5_7 l).p (fun b => b < W.heap.size) W ∧ ∀ n ∈ l, -9223372036854775808 ≤ n ∧ n ≤ 9223372036854775807 :=
    open_list Try.underlying22 Try.underlying3 (by kernel_rfl) w5_7 m5_7_0
  clear hA0 hval0
  refine (law21_FilterExact_ok (w0 := W) (S0 := fun b => b < W.heap.size) (law21_FilterExact_true l0 (⟨l1_0, e1_1, e1_2⟩ : Filter) l2 a3 (⟨(⟨l4_0, e4_1, e4_2⟩ : Filter), l4_3, e4_4⟩ : Feed) (⟨e5_0, (⟨e5_1, e5_2, e5_3⟩ : (Arr3 Int)), (⟨e5_4, e5_5, e5_6⟩ : (Arr3 Int)), l5_7, e5_8, e5_9⟩ : Stage) ) (fun _ h => h) s0 s1_0 s2 s4_0 s4_3 s5_7).mono fun e W' ⟨v, S', he, hp, hv⟩ => ?_
  subst he
  have hv : v = .bool true := hv
  subst hv
  have bel := hp.below
  exact ⟨_, rfl, _, _, _, [], _, [], hW', trodAll_mk1 (shut_bool Try.underlying4 _), (trodAll_cons_mk (Below.trod laidOut (by kernel_rfl) (of_decide_eq_true (by kernel_rfl)) k0 bel lt0) (trodAll_cons_mk (Below.trod laidOut (by kernel_rfl) (of_decide_eq_true (by kernel_rfl)) ⟨f1, hf1⟩ bel lt1) (trodAll_cons_mk (Below.trod laidOut (by kernel_rfl) (of_decide_eq_true (by kernel_rfl)) k2 bel lt2) (trodAll_cons_mk (shut_int Try.underlying3 w3) (trodAll_cons_mk (Below.trod laidOut (by kernel_rfl) (of_decide_eq_true (by kernel_rfl)) ⟨f4, hf4⟩ bel lt4) (trodAll_cons_mk (Below.trod laidOut (by kernel_rfl) (of_decide_eq_true (by kernel_rfl)) ⟨f5, hf5⟩ bel lt5) trodAll_mk0)))))), rfl, bel.frame _, fun h => by cases h⟩

theorem over : Rows.filterExactRow.holds Try.pinned (OpenSpec.ofChange Rows.filterExactSpec) :=
  OpenClaim.holds_of_wide 9 Try.f9 rfl rfl rfl rfl rfl rfl rfl ⟨rfl, rfl, rfl, rfl, rfl⟩ rfl rfl rfl rfl rfl (by kernel_rfl) Try.func9 (by kernel_rfl)
    (of_decide_eq_true (by kernel_rfl)) (by unfold Func.isWrapper; first | (rw [if_pos (by decide +kernel)]; kernel_rfl) | (rw [if_neg (by decide +kernel)]; exact ⟨rfl, rfl⟩))
    (fun os started H enc _ => lifted os started H enc)

theorem proved : Rows.FilterExactSaid := over
end Go.Proofs.Ytmihimhknllmcaa.filterExact

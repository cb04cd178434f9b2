/- Each Go function as a plain program over lists and numbers (none: a panic, or no end). Printed by a program of ours out of the translation. -/
import Derived.Test.YtmihimhknllmcaaShData
namespace Go.Proofs.Ytmihimhknllmcaa.Sh
open Go
set_option linter.unusedVariables false

-- seismonet/seismonetmade.Light
noncomputable def made_Light (l1 : (List Int)) : Option Bool :=
  some (decide ((l1.length : Int) ≤ 500))

-- seismonet/filter.in
noncomputable def filter_in (n1 : Int) (low2 : Int) (high3 : Int) : Option Bool :=
  some ((decide (low2 ≤ n1)) && (decide (n1 ≤ high3)))

-- seismonet/filter.Valid
noncomputable def filter_Valid_l2 (f1 : Filter) (sv126 : (Int × Int)) : Option ((Int × Int) ⊕ Bool) :=
  (if (decide (sv126.2 < (f1.Taps.length : Int))) = true then
    (ix f1.Taps sv126.2).bind fun x232 =>
    (filter_in x232 (-1073741824) 1073741824).bind fun rv244 =>
    (if (!rv244) = true then
      some (Sum.inr false)
    else
      (some (w64 (sv126.1 + (max x232 (w64 (0 - x232)))))).bind fun sum254 =>
      some (Sum.inl (sum254, (w64 (sv126.2 + 1)))))
  else
    Option.map Sum.inr ((shlM .i64 1 f1.Shift).bind fun shl256 =>
    some (decide (sv126.1 ≤ shl256))))
noncomputable def filter_Valid (f1 : Filter) : Option Bool :=
  (filter_in (f1.Taps.length : Int) 1 128).bind fun rv7 =>
  ((if (!rv7) = true then
    some true
  else
    (filter_in f1.Shift 0 30).bind fun rv24 =>
    some (!rv24))).bind fun c21 =>
  ((if c21 = true then
    some true
  else
    (filter_in f1.Factor 1 64).bind fun rv41 =>
    some (!rv41))).bind fun c38 =>
  (if c38 = true then
    some false
  else
    whileM (filter_Valid_l2 f1) (0, 0))

-- slices.IndexFunc[[]int,int]
noncomputable def slices_IndexFunc_Lint_int_l2 (s1 : (List Int)) (f5 : Int → Option Bool) (sv78 : Int) : Option (Int ⊕ Int) :=
  (if (decide (sv78 < (s1.length : Int))) = true then
    (ix s1 sv78).bind fun x172 =>
    (f5 x172).bind fun rv184 =>
    (if rv184 = true then
      some (Sum.inr sv78)
    else
      some (Sum.inl (w64 (sv78 + 1))))
  else
    Option.map Sum.inr (some (-1)))
noncomputable def slices_IndexFunc_Lint_int (s1 : (List Int)) (f5 : Int → Option Bool) : Option Int :=
  whileM (slices_IndexFunc_Lint_int_l2 s1 f5) (0)

-- slices.ContainsFunc[[]int,int]
noncomputable def slices_ContainsFunc_Lint_int (s1 : (List Int)) (f5 : Int → Option Bool) : Option Bool :=
  (slices_IndexFunc_Lint_int s1 f5).bind fun rv11 =>
  some (decide (0 ≤ rv11))

-- seismonet/filter.wrong
noncomputable def filter_wrong (n1 : Int) : Option Bool :=
  (filter_in n1 (-1073741823) 1073741823).bind fun rv3 =>
  some (!rv3)

-- seismonet/filter.check
noncomputable def filter_check (samples1 : (List Int)) (number5 : Int) (most6 : Int) : Option Int :=
  (filter_in number5 0 most6).bind fun rv8 =>
  ((if (!rv8) = true then
    some true
  else
    (slices_ContainsFunc_Lint_int samples1 filter_wrong).bind fun rv25 =>
    some rv25)).bind fun c22 =>
  (if c22 = true then
    some 2
  else
    (if (decide (65536 < (samples1.length : Int))) = true then
      some 8
    else
      some 0))

-- seismonet/filter.output
noncomputable def filter_output_l1 (f1 : Filter) (samples5 : (List Int)) (i9 : Int) (sv11 : (Int × Int)) : Option ((Int × Int) ⊕ Int) :=
  (if (decide (sv11.2 < (f1.Taps.length : Int))) = true then
    (ix f1.Taps sv11.2).bind fun x138 =>
    (ix samples5 (w64 (i9 - sv11.2))).bind fun x151 =>
    (some (w64 (sv11.1 + (w64 (x138 * x151))))).bind fun sum163 =>
    some (Sum.inl (sum163, (w64 (sv11.2 + 1))))
  else
    some (Sum.inr sv11.1))
noncomputable def filter_output (f1 : Filter) (samples5 : (List Int)) (i9 : Int) : Option Int :=
  (whileM (filter_output_l1 f1 samples5 i9) (0, 0)).bind fun e104 =>
  (shrM .i64 e104 f1.Shift).bind fun shr166 =>
  some shr166

-- seismonet/filter.outputs
noncomputable def filter_outputs_j1 (sv14 : ((List Int) × Int)) (out151 : (List Int)) : Option (((List Int) × Int) ⊕ (List Int)) :=
  (some (w64 (sv14.2 + 1))).bind fun i153 =>
  some (Sum.inl (out151, i153))
noncomputable def filter_outputs_l1 (f1 : Filter) (samples5 : (List Int)) (number9 : Int) (sv14 : ((List Int) × Int)) : Option (((List Int) × Int) ⊕ (List Int)) :=
  (if (decide (sv14.2 < (samples5.length : Int))) = true then
    (remM (w64 (number9 + sv14.2)) f1.Factor).bind fun rem131 =>
    (if (rem131 == 0) = true then
      (filter_output f1 samples5 sv14.2).bind fun rv156 =>
      (appM 8 sv14.1 ([rv156] : List Int)).bind fun l165 =>
      filter_outputs_j1 sv14 l165
    else
      filter_outputs_j1 sv14 sv14.1)
  else
    some (Sum.inr sv14.1))
noncomputable def filter_outputs (f1 : Filter) (samples5 : (List Int)) (number9 : Int) (from10 : Int) : Option (List Int) :=
  (some (max from10 (w64 ((f1.Taps.length : Int) - 1)))).bind fun i13 =>
  (whileM (filter_outputs_l1 f1 samples5 number9) (([] : List Int), i13)).bind fun e101 =>
  some e101

-- seismonet/filter.Apply
noncomputable def filter_Apply (f1 : Filter) (samples5 : (List Int)) (number9 : Int) : Option ((List Int) × Int) :=
  (filter_Valid f1).bind fun rv12 =>
  (if (!rv12) = true then
    some (([] : List Int), 1)
  else
    (filter_check samples5 number9 9007199254740992).bind fun rv21 =>
    (if (rv21 != 0) = true then
      some (([] : List Int), rv21)
    else
      (filter_outputs f1 samples5 number9 0).bind fun rv30 =>
      some (rv30, 0)))

-- seismonet/seismonetref05.Same
noncomputable def ref05_Same_l2 (a1 : (List Int)) (b5 : (List Int)) (sv109 : Int) : Option (Int ⊕ Bool) :=
  (if (decide (sv109 < (a1.length : Int))) = true then
    (ix a1 sv109).bind fun x241 =>
    (ix b5 sv109).bind fun x254 =>
    (if (x241 != x254) = true then
      some (Sum.inr false)
    else
      (some (w64 (sv109 + 1))).bind fun i270 =>
      some (Sum.inl i270))
  else
    Option.map Sum.inr (some true))
noncomputable def ref05_Same (a1 : (List Int)) (b5 : (List Int)) : Option Bool :=
  (if ((a1.length : Int) != (b5.length : Int)) = true then
    some false
  else
    whileM (ref05_Same_l2 a1 b5) (0))

-- seismonet/seismonetlaw21.sane
noncomputable def law21_sane : Option Bool :=
  (filter_Apply (⟨([1, 1] : List Int), 1, 1⟩ : Filter) ([4, 6, 9] : List Int) 0).bind fun rv7 =>
  (filter_Apply (⟨([1, 1] : List Int), 2, 1⟩ : Filter) ([4, 6, 9] : List Int) 10).bind fun rv22 =>
  ((if ((rv7.2 == 0) && (rv22.2 == 0)) = true then
    (ref05_Same rv7.1 ([5, 7] : List Int)).bind fun rv49 =>
    some rv49
  else
    some false)).bind fun c44 =>
  ((if c44 = true then
    (ref05_Same rv22.1 ([7] : List Int)).bind fun rv70 =>
    some rv70
  else
    some false)).bind fun c65 =>
  ((if c65 = true then
    (filter_Valid (⟨([1, 1] : List Int), 2, 1⟩ : Filter)).bind fun rv87 =>
    some rv87
  else
    some false)).bind fun c84 =>
  some c84

-- seismonet/seismonetmade.Roll
noncomputable def made_Roll (l1 : (List Int)) : Option Dice :=
  some (⟨l1, 0⟩ : Dice)

-- (*seismonet/seismonetmade.Dice).Next
noncomputable def made_Dice_Next_j1 (d1 : Dice) (x33 : Int) : Option (Int × Dice) :=
  some (x33, (⟨d1.L, (w64 (d1.At + 1))⟩ : Dice))
noncomputable def made_Dice_Next (d1 : Dice) (n6 : Int) : Option (Int × Dice) :=
  (if ((decide ((d1.L.length : Int) ≤ d1.At)) || (decide (n6 < 1))) = true then
    some (0, d1)
  else
    (ix d1.L d1.At).bind fun x15 =>
    (remM x15 n6).bind fun rem27 =>
    (if (decide (rem27 < 0)) = true then
      (some (w64 (rem27 + n6))).bind fun x36 =>
      made_Dice_Next_j1 d1 x36
    else
      made_Dice_Next_j1 d1 rem27))

-- (*seismonet/seismonetmade.Dice).Pick
noncomputable def made_Dice_Pick (d1 : Dice) (l6 : (List Int)) : Option (Int × Dice) :=
  (made_Dice_Next d1 (l6.length : Int)).bind fun rv11 =>
  (ix l6 rv11.1).bind fun x22 =>
  some (x22, rv11.2)

-- (*seismonet/seismonetmade.Dice).Filter
noncomputable def made_Dice_Filter_l1 (sv48 : ((List Int) × Int × (List Int) × Int × Int)) : Option (((List Int) × Int × (List Int) × Int × Int) ⊕ ((List Int) × Int × (List Int))) :=
  (if (decide (0 < sv48.2.2.2.2)) = true then
    (made_Dice_Next (⟨sv48.1, sv48.2.1⟩ : Dice) (w64 ((w64 (2 * sv48.2.2.2.1)) + 1))).bind fun rv167 =>
    (some (w64 (rv167.1 - sv48.2.2.2.1))).bind fun x177 =>
    (some (w64 (sv48.2.2.2.1 - (max x177 (w64 (0 - x177)))))).bind fun left179 =>
    (appM 8 sv48.2.2.1 ([x177] : List Int)).bind fun l183 =>
    (some (w64 (sv48.2.2.2.2 - 1))).bind fun i188 =>
    some (Sum.inl (rv167.2.L, rv167.2.At, l183, left179, i188))
  else
    some (Sum.inr (sv48.1, sv48.2.1, sv48.2.2.1)))
noncomputable def made_Dice_Filter (d1 : Dice) : Option (Filter × Dice) :=
  (made_Dice_Pick d1 ([1, 1, 2, 3] : List Int)).bind fun rv10 =>
  (made_Dice_Pick rv10.2 ([0, 2, 4, 6] : List Int)).bind fun rv23 =>
  (shlM .i64 1 (IntKind.u64.wrap rv23.1)).bind fun shl35 =>
  (made_Dice_Next rv23.2 5).bind fun rv37 =>
  (some (w64 (1 + rv37.1))).bind fun i47 =>
  (whileM (made_Dice_Filter_l1) (rv37.2.L, rv37.2.At, ([] : List Int), shl35, i47)).bind fun e136 =>
  some ((⟨e136.2.2, rv10.1, rv23.1⟩ : Filter), (⟨e136.1, e136.2.1⟩ : Dice))

-- seismonet/seismonetlaw21.FilterImpulse
noncomputable def law21_FilterImpulse_j1 (sv213 : Int) (x363 : Int) (want392 : Int) : Option (Int ⊕ Bool) :=
  (if (x363 != want392) = true then
    some (Sum.inr false)
  else
    some (Sum.inl (w64 (sv213 + 1))))
noncomputable def law21_FilterImpulse_l3 (rv41 : (Filter × Dice)) (sv411 : (Int × Int)) : Option ((Int × Int) ⊕ Int) :=
  (if (decide (sv411.2 < (rv41.1.Taps.length : Int))) = true then
    (ix rv41.1.Taps sv411.2).bind fun x486 =>
    (some (w64 (sv411.1 + x486))).bind fun sum498 =>
    some (Sum.inl (sum498, (w64 (sv411.2 + 1))))
  else
    some (Sum.inr sv411.1))
noncomputable def law21_FilterImpulse_l4 (n5 : Int) (rv41 : (Filter × Dice)) (l501 : (List Int)) (sv504 : ((List Int) × Int)) : Option (((List Int) × Int) ⊕ (List Int)) :=
  (if (decide (sv504.2 < (l501.length : Int))) = true then
    (shlM .i64 (w64 n5) (IntKind.u64.wrap rv41.1.Shift)).bind fun shl603 =>
    (ix sv504.1 sv504.2).bind fun x606 =>
    (setM sv504.1 sv504.2 shl603).bind fun l618 =>
    some (Sum.inl (l618, (w64 (sv504.2 + 1))))
  else
    some (Sum.inr sv504.1))
noncomputable def law21_FilterImpulse_l6 (n5 : Int) (e465 : Int) (rv623 : ((List Int) × Int)) (sv684 : Int) : Option (Int ⊕ Bool) :=
  (if (decide (sv684 < (rv623.1.length : Int))) = true then
    (ix rv623.1 sv684).bind fun x754 =>
    (if (x754 != (w64 (e465 * (w64 n5)))) = true then
      some (Sum.inr false)
    else
      some (Sum.inl (w64 (sv684 + 1))))
  else
    Option.map Sum.inr (((if ((rv623.2 == 0) && ((rv623.1.length : Int) == 4)) = true then
      (law21_sane).bind fun rv780 =>
      some rv780
    else
      some false)).bind fun c777 =>
    some c777))
noncomputable def law21_FilterImpulse_l2 (n5 : Int) (rv41 : (Filter × Dice)) (k56 : Int) (rv84 : ((List Int) × Int)) (atv102 : Int) (sv213 : Int) : Option (Int ⊕ Bool) :=
  (if (decide (sv213 < (rv84.1.length : Int))) = true then
    (ix rv84.1 sv213).bind fun x363 =>
    (some (w64 ((w64 ((w64 (k56 - 1)) + sv213)) - atv102))).bind fun j375 =>
    (if ((decide (0 ≤ j375)) && (decide (j375 < k56))) = true then
      (ix rv41.1.Taps j375).bind fun x399 =>
      law21_FilterImpulse_j1 sv213 x363 x399
    else
      law21_FilterImpulse_j1 sv213 x363 0)
  else
    Option.map Sum.inr ((whileM (law21_FilterImpulse_l3 rv41) (0, 0)).bind fun e465 =>
    (makeM 8 (0 : Int) (w64 (k56 + 3))).bind fun l501 =>
    (whileM (law21_FilterImpulse_l4 n5 rv41 l501) (l501, 0)).bind fun e576 =>
    (filter_Apply (⟨rv41.1.Taps, 1, rv41.1.Shift⟩ : Filter) e576 0).bind fun rv623 =>
    whileM (law21_FilterImpulse_l6 n5 e465 rv623) (0)))
noncomputable def law21_FilterImpulse (t1 : (List Int)) (n5 : Int) : Option Bool :=
  (made_Light t1).bind fun rv7 =>
  (if (!rv7) = true then
    (law21_sane).bind fun rv23 =>
    some rv23
  else
    (made_Roll t1).bind fun rv30 =>
    (made_Dice_Filter rv30).bind fun rv41 =>
    (some (rv41.1.Taps.length : Int)).bind fun k56 =>
    (makeM 8 (0 : Int) (w64 (3 * k56))).bind fun l58 =>
    (remM (w64 n5) k56).bind fun rem62 =>
    (shlM .i64 1 (IntKind.u64.wrap rv41.1.Shift)).bind fun shl64 =>
    (ix l58 (w64 ((w64 ((w64 (2 * k56)) - 1)) - rem62))).bind fun x67 =>
    (setM l58 (w64 ((w64 ((w64 (2 * k56)) - 1)) - rem62)) shl64).bind fun l79 =>
    (filter_Apply (⟨rv41.1.Taps, 1, rv41.1.Shift⟩ : Filter) l79 0).bind fun rv84 =>
    (if ((rv84.2 != 0) || ((rv84.1.length : Int) != (w64 ((w64 (2 * k56)) + 1)))) = true then
      some false
    else
      (remM (w64 n5) k56).bind fun rem100 =>
      (some (w64 ((w64 ((w64 (2 * k56)) - 1)) - rem100))).bind fun atv102 =>
      whileM (law21_FilterImpulse_l2 n5 rv41 k56 rv84 atv102) (0)))

-- (*seismonet/seismonetmade.Dice).Samples
noncomputable def made_Dice_Samples_j1 (sv32 : ((List Int) × Int × (List Int) × Int × Int)) (x605 : (List Int)) (x606 : Int) (x607 : Int) : Option (((List Int) × Int × (List Int) × Int × Int) ⊕ ((List Int) × Int × (List Int))) :=
  (some (min (max x607 (-1073741823)) 1073741823)).bind fun x609 =>
  (appM 8 sv32.2.2.1 ([x609] : List Int)).bind fun l613 =>
  (some (w64 (sv32.2.2.2.2 - 1))).bind fun i618 =>
  some (Sum.inl (x605, x606, l613, x609, i618))
noncomputable def made_Dice_Samples_j2 (sv32 : ((List Int) × Int × (List Int) × Int × Int)) (x686 : (List Int)) (x687 : Int) (x688 : Int) : Option (((List Int) × Int × (List Int) × Int × Int) ⊕ ((List Int) × Int × (List Int))) :=
  made_Dice_Samples_j1 sv32 x686 x687 x688
noncomputable def made_Dice_Samples_j3 (sv32 : ((List Int) × Int × (List Int) × Int × Int)) (x734 : (List Int)) (x735 : Int) (x736 : Int) : Option (((List Int) × Int × (List Int) × Int × Int) ⊕ ((List Int) × Int × (List Int))) :=
  made_Dice_Samples_j2 sv32 x734 x735 x736
noncomputable def made_Dice_Samples_l1 (sv32 : ((List Int) × Int × (List Int) × Int × Int)) : Option (((List Int) × Int × (List Int) × Int × Int) ⊕ ((List Int) × Int × (List Int))) :=
  (if (decide (0 < sv32.2.2.2.2)) = true then
    (made_Dice_Next (⟨sv32.1, sv32.2.1⟩ : Dice) 10).bind fun rv447 =>
    (if (rv447.1 == 0) = true then
      (made_Dice_Pick rv447.2 ([127, 128, (-128), (-129), 300] : List Int)).bind fun rv623 =>
      (some (w64 (sv32.2.2.2.1 + rv623.1))).bind fun x634 =>
      made_Dice_Samples_j1 sv32 rv623.2.L rv623.2.At x634
    else
      (if (rv447.1 == 1) = true then
        (made_Dice_Pick rv447.2 ([32767, 32768, (-32768), (-32769)] : List Int)).bind fun rv693 =>
        (some (w64 (sv32.2.2.2.1 + rv693.1))).bind fun x704 =>
        made_Dice_Samples_j2 sv32 rv693.2.L rv693.2.At x704
      else
        (if (rv447.1 == 2) = true then
          (made_Dice_Pick rv447.2 ([0, 1073741823, (-1073741823), 536870912] : List Int)).bind fun rv741 =>
          made_Dice_Samples_j3 sv32 rv741.2.L rv741.2.At rv741.1
        else
          (made_Dice_Next rv447.2 9).bind fun rv752 =>
          (some (w64 (sv32.2.2.2.1 + (w64 (rv752.1 - 4))))).bind fun x762 =>
          made_Dice_Samples_j3 sv32 rv752.2.L rv752.2.At x762)))
  else
    some (Sum.inr (sv32.1, sv32.2.1, sv32.2.2.1)))
noncomputable def made_Dice_Samples (d1 : Dice) (n6 : Int) : Option ((List Int) × Dice) :=
  (made_Dice_Pick d1 ([0, 5, (-100), 1000] : List Int)).bind fun rv10 =>
  (made_Dice_Next rv10.2 n6).bind fun rv21 =>
  (some (w64 (1 + rv21.1))).bind fun i31 =>
  (whileM (made_Dice_Samples_l1) (rv21.2.L, rv21.2.At, ([] : List Int), rv10.1, i31)).bind fun e342 =>
  some (e342.2.2, (⟨e342.1, e342.2.1⟩ : Dice))

-- seismonet/seismonetref01.In
noncomputable def ref01_In (n1 : Int) (lo2 : Int) (hi3 : Int) : Option Bool :=
  some ((decide (lo2 ≤ n1)) && (decide (n1 ≤ hi3)))

-- seismonet/seismonetref05.Sample
noncomputable def ref05_Sample (n1 : Int) : Option Bool :=
  (ref01_In n1 (-1073741823) 1073741823).bind fun rv3 =>
  some rv3

-- seismonet/seismonetref05.InRange
noncomputable def ref05_InRange_l2 (l1 : (List Int)) (sv82 : Int) : Option (Int ⊕ Bool) :=
  (if (decide (sv82 < (l1.length : Int))) = true then
    (ix l1 sv82).bind fun x186 =>
    (ref05_Sample x186).bind fun rv198 =>
    (if (!rv198) = true then
      some (Sum.inr false)
    else
      (some (w64 (sv82 + 1))).bind fun i208 =>
      some (Sum.inl i208))
  else
    Option.map Sum.inr (some true))
noncomputable def ref05_InRange (l1 : (List Int)) : Option Bool :=
  whileM (ref05_InRange_l2 l1) (0)

-- seismonet/seismonetlaw21.FilterLinear
noncomputable def law21_FilterLinear_l1 (by6 : Int) (rv42 : (Filter × Dice)) (sv56 : ((List Int) × Int × (List Int) × (List Int) × (List Int) × Int)) : Option (((List Int) × Int × (List Int) × (List Int) × (List Int) × Int) ⊕ ((List Int) × Int × (List Int) × (List Int) × (List Int))) :=
  (if (decide (sv56.2.2.2.2.2 < 14)) = true then
    (made_Dice_Next (⟨sv56.1, sv56.2.1⟩ : Dice) 9).bind fun rv253 =>
    (shlM .i64 (w64 (rv253.1 - 4)) (IntKind.u64.wrap rv42.1.Shift)).bind fun shl258 =>
    (made_Dice_Next rv253.2 9).bind fun rv260 =>
    (shlM .i64 (w64 (rv260.1 - 4)) (IntKind.u64.wrap rv42.1.Shift)).bind fun shl265 =>
    (appM 8 sv56.2.2.1 ([shl258] : List Int)).bind fun l280 =>
    (appM 8 sv56.2.2.2.1 ([shl265] : List Int)).bind fun l287 =>
    (appM 8 sv56.2.2.2.2.1 ([(w64 (shl258 + (w64 ((w64 by6) * shl265))))] : List Int)).bind fun l294 =>
    (some (w64 (sv56.2.2.2.2.2 + 1))).bind fun i299 =>
    some (Sum.inl (rv260.2.L, rv260.2.At, l280, l287, l294, i299))
  else
    some (Sum.inr (sv56.1, sv56.2.1, sv56.2.2.1, sv56.2.2.2.1, sv56.2.2.2.2.1)))
noncomputable def law21_FilterLinear_j2 (sv1141 : (Int × Int)) (j1332 : Int) : Option ((Int × Int) ⊕ Bool) :=
  some (Sum.inl (j1332, (w64 (sv1141.2 + 1))))
noncomputable def law21_FilterLinear_l5 (n5 : Int) (rv42 : (Filter × Dice)) (rv973 : ((List Int) × Int)) (rv985 : (Int × Dice)) (rv995 : ((List Int) × Int)) (sv1141 : (Int × Int)) : Option ((Int × Int) ⊕ Bool) :=
  (if (decide (sv1141.2 < (rv973.1.length : Int))) = true then
    (remM (w64 ((w64 ((w64 ((w64 n5) + (rv42.1.Taps.length : Int))) - 1)) + sv1141.2)) (w64 (1 + rv985.1))).bind fun rem1298 =>
    (if (rem1298 == 0) = true then
      (if (decide ((rv995.1.length : Int) ≤ sv1141.1)) = true then
        some true
      else
        (ix rv995.1 sv1141.1).bind fun x1336 =>
        (ix rv973.1 sv1141.2).bind fun x1349 =>
        some (x1336 != x1349)).bind fun c1360 =>
      (if c1360 = true then
        some (Sum.inr false)
      else
        (some (w64 (sv1141.1 + 1))).bind fun j1395 =>
        law21_FilterLinear_j2 sv1141 j1395)
    else
      law21_FilterLinear_j2 sv1141 sv1141.1)
  else
    Option.map Sum.inr (((if (sv1141.1 == (rv995.1.length : Int)) = true then
      (law21_sane).bind fun rv1407 =>
      some rv1407
    else
      some false)).bind fun c1404 =>
    some c1404))
noncomputable def law21_FilterLinear_l3 (n5 : Int) (by6 : Int) (rv42 : (Filter × Dice)) (e201 : ((List Int) × Int × (List Int) × (List Int) × (List Int))) (rv302 : ((List Int) × Int)) (rv315 : ((List Int) × Int)) (rv327 : ((List Int) × Int)) (rv345 : ((List Int) × Int)) (sv568 : Int) : Option (Int ⊕ Bool) :=
  (if (decide (sv568 < (rv302.1.length : Int))) = true then
    (ix rv327.1 sv568).bind fun x842 =>
    (ix rv302.1 sv568).bind fun x855 =>
    (ix rv315.1 sv568).bind fun x868 =>
    (if (x842 != (w64 (x855 + (w64 ((w64 by6) * x868))))) = true then
      some true
    else
      (if (decide (3 ≤ sv568)) = true then
        (ix rv345.1 (w64 (sv568 - 3))).bind fun x881 =>
        (ix rv302.1 sv568).bind fun x894 =>
        some (x881 != x894)
      else
        some false).bind fun c901 =>
      some c901).bind fun c902 =>
    (if c902 = true then
      some (Sum.inr false)
    else
      some (Sum.inl (w64 (sv568 + 1))))
  else
    Option.map Sum.inr ((made_Dice_Samples (⟨e201.1, e201.2.1⟩ : Dice) 20).bind fun rv959 =>
    (filter_Apply (⟨rv42.1.Taps, 1, rv42.1.Shift⟩ : Filter) rv959.1 (w64 n5)).bind fun rv973 =>
    (made_Dice_Next rv959.2 5).bind fun rv985 =>
    (filter_Apply (⟨rv42.1.Taps, (w64 (1 + rv985.1)), rv42.1.Shift⟩ : Filter) rv959.1 (w64 n5)).bind fun rv995 =>
    ((if ((rv973.2 != 0) || (rv995.2 != 0)) = true then
      some true
    else
      (ref05_InRange rv973.1).bind fun rv1017 =>
      some (!rv1017))).bind fun c1014 =>
    (if c1014 = true then
      some false
    else
      whileM (law21_FilterLinear_l5 n5 rv42 rv973 rv985 rv995) (0, 0))))
noncomputable def law21_FilterLinear (t1 : (List Int)) (n5 : Int) (by6 : Int) : Option Bool :=
  (made_Light t1).bind fun rv8 =>
  (if (!rv8) = true then
    (law21_sane).bind fun rv24 =>
    some rv24
  else
    (made_Roll t1).bind fun rv31 =>
    (made_Dice_Filter rv31).bind fun rv42 =>
    (whileM (law21_FilterLinear_l1 by6 rv42) (rv42.2.L, rv42.2.At, ([] : List Int), ([] : List Int), ([] : List Int), 0)).bind fun e201 =>
    (filter_Apply (⟨rv42.1.Taps, 1, rv42.1.Shift⟩ : Filter) e201.2.2.1 0).bind fun rv302 =>
    (filter_Apply (⟨rv42.1.Taps, 1, rv42.1.Shift⟩ : Filter) e201.2.2.2.1 0).bind fun rv315 =>
    (filter_Apply (⟨rv42.1.Taps, 1, rv42.1.Shift⟩ : Filter) e201.2.2.2.2 (w64 n5)).bind fun rv327 =>
    (subM e201.2.2.1 3 (e201.2.2.1.length : Int)).bind fun l343 =>
    (filter_Apply (⟨rv42.1.Taps, 1, rv42.1.Shift⟩ : Filter) l343 3).bind fun rv345 =>
    (if ((((((((rv302.2 != 0) || (rv315.2 != 0)) || (rv327.2 != 0)) || (rv345.2 != 0)) || ((rv302.1.length : Int) != (w64 (15 - (rv42.1.Taps.length : Int))))) || ((rv315.1.length : Int) != (rv302.1.length : Int))) || ((rv327.1.length : Int) != (rv302.1.length : Int))) || ((rv345.1.length : Int) != (max (w64 ((rv302.1.length : Int) - 3)) 0))) = true then
      some false
    else
      whileM (law21_FilterLinear_l3 n5 by6 rv42 e201 rv302 rv315 rv327 rv345) (0)))

-- seismonet/filter.Convolve
noncomputable def filter_Convolve_l6 (b5 : Filter) (sv81 : ((List Int) × Int)) (x705 : Int) (sv716 : ((List Int) × Int)) : Option (((List Int) × Int) ⊕ (List Int)) :=
  (if (decide (sv716.2 < (b5.Taps.length : Int))) = true then
    (ix b5.Taps sv716.2).bind fun x896 =>
    (ix sv716.1 (w64 (sv81.2 + sv716.2))).bind fun x909 =>
    (ix sv716.1 (w64 (sv81.2 + sv716.2))).bind fun x922 =>
    (setM sv716.1 (w64 (sv81.2 + sv716.2)) (w64 (x909 + (w64 (x705 * x896))))).bind fun l930 =>
    some (Sum.inl (l930, (w64 (sv716.2 + 1))))
  else
    some (Sum.inr sv716.1))
noncomputable def filter_Convolve_l3 (a1 : Filter) (b5 : Filter) (sv81 : ((List Int) × Int)) : Option (((List Int) × Int) ⊕ (List Int)) :=
  (if (decide (sv81.2 < (a1.Taps.length : Int))) = true then
    (ix a1.Taps sv81.2).bind fun x705 =>
    (whileM (filter_Convolve_l6 b5 sv81 x705) (sv81.1, 0)).bind fun e848 =>
    some (Sum.inl (e848, (w64 (sv81.2 + 1))))
  else
    some (Sum.inr sv81.1))
noncomputable def filter_Convolve (a1 : Filter) (b5 : Filter) : Option (Filter × Int) :=
  (filter_Valid a1).bind fun rv41 =>
  ((if (!rv41) = true then
    some true
  else
    (filter_Valid b5).bind fun rv58 =>
    some (!rv58))).bind fun c55 =>
  (if c55 = true then
    some ((⟨([] : List Int), 0, 0⟩ : Filter), 1)
  else
    (if ((a1.Factor != 1) || (b5.Factor != 1)) = true then
      some ((⟨([] : List Int), 0, 0⟩ : Filter), 10)
    else
      (makeM 8 (0 : Int) (w64 ((w64 ((a1.Taps.length : Int) + (b5.Taps.length : Int))) - 1))).bind fun l73 =>
      (if ((decide (128 < (l73.length : Int))) || (decide (30 < (w64 (a1.Shift + b5.Shift))))) = true then
        some ((⟨([] : List Int), 0, 0⟩ : Filter), 8)
      else
        (whileM (filter_Convolve_l3 a1 b5) (l73, 0)).bind fun e546 =>
        some ((⟨e546, 1, (w64 (a1.Shift + b5.Shift))⟩ : Filter), 0))))

-- seismonet/seismonetref21.Same
noncomputable def ref21_Same (a1 : Filter) (b5 : Filter) : Option Bool :=
  ((if ((a1.Factor == b5.Factor) && (a1.Shift == b5.Shift)) = true then
    (ref05_Same a1.Taps b5.Taps).bind fun rv23 =>
    some rv23
  else
    some false)).bind fun c20 =>
  some c20

-- seismonet/seismonetref21.Valid
noncomputable def ref21_Valid_l2 (f1 : Filter) (sv183 : (Int × Int)) : Option ((Int × Int) ⊕ Bool) :=
  (if (decide (sv183.2 < (f1.Taps.length : Int))) = true then
    (ix f1.Taps sv183.2).bind fun x363 =>
    (ref01_In x363 (-1073741824) 1073741824).bind fun rv375 =>
    (if (!rv375) = true then
      some (Sum.inr false)
    else
      (ix f1.Taps sv183.2).bind fun x386 =>
      (ix f1.Taps sv183.2).bind fun x394 =>
      (some (w64 (sv183.1 + (max x386 (w64 (0 - x394)))))).bind fun sum401 =>
      (some (w64 (sv183.2 + 1))).bind fun i404 =>
      some (Sum.inl (sum401, i404)))
  else
    Option.map Sum.inr ((shlM .i64 1 (IntKind.u64.wrap f1.Shift)).bind fun shl406 =>
    some (decide (sv183.1 ≤ shl406))))
noncomputable def ref21_Valid (f1 : Filter) : Option Bool :=
  (ref01_In (f1.Taps.length : Int) 1 128).bind fun rv7 =>
  ((if (!rv7) = true then
    some true
  else
    (ref01_In f1.Shift 0 30).bind fun rv24 =>
    some (!rv24))).bind fun c21 =>
  ((if c21 = true then
    some true
  else
    (ref01_In f1.Factor 1 64).bind fun rv41 =>
    some (!rv41))).bind fun c38 =>
  (if c38 = true then
    some false
  else
    whileM (ref21_Valid_l2 f1) (0, 0))

-- seismonet/seismonetlaw21.FilterConvolves
noncomputable def law21_FilterConvolves_l2 (rv40 : (Filter × Dice)) (rv54 : (Filter × Dice)) (rv122 : ((List Int) × Int)) (rv134 : ((List Int) × Int)) (sv308 : Int) : Option (Int ⊕ Bool) :=
  (if (decide (sv308 < (rv134.1.length : Int))) = true then
    (ix rv134.1 sv308).bind fun x474 =>
    (ix rv122.1 sv308).bind fun x487 =>
    (some (w64 (x474 - x487))).bind fun sv499 =>
    (if (((decide (sv499 < (-1))) || (decide (1 < sv499))) || ((sv499 != 0) && ((w64 (rv40.1.Shift + rv54.1.Shift)) == 0))) = true then
      some (Sum.inr false)
    else
      some (Sum.inl (w64 (sv308 + 1))))
  else
    Option.map Sum.inr ((law21_sane).bind fun rv513 =>
    some rv513))
noncomputable def law21_FilterConvolves (t1 : (List Int)) : Option Bool :=
  (made_Light t1).bind fun rv6 =>
  (if (!rv6) = true then
    (law21_sane).bind fun rv22 =>
    some rv22
  else
    (made_Roll t1).bind fun rv29 =>
    (made_Dice_Filter rv29).bind fun rv40 =>
    (made_Dice_Filter rv40.2).bind fun rv54 =>
    (filter_Convolve (⟨rv40.1.Taps, 1, rv40.1.Shift⟩ : Filter) (⟨rv54.1.Taps, 1, rv54.1.Shift⟩ : Filter)).bind fun rv70 =>
    (filter_Convolve (⟨rv54.1.Taps, 1, rv54.1.Shift⟩ : Filter) (⟨rv40.1.Taps, 1, rv40.1.Shift⟩ : Filter)).bind fun rv84 =>
    (made_Dice_Samples rv54.2 24).bind fun rv96 =>
    (filter_Apply (⟨rv40.1.Taps, 1, rv40.1.Shift⟩ : Filter) rv96.1 0).bind fun rv110 =>
    (filter_Apply (⟨rv54.1.Taps, 1, rv54.1.Shift⟩ : Filter) rv110.1 0).bind fun rv122 =>
    (filter_Apply rv70.1 rv96.1 0).bind fun rv134 =>
    ((if (((((rv70.2 != 0) || (rv84.2 != 0)) || (rv110.2 != 0)) || (rv122.2 != 0)) || (rv134.2 != 0)) = true then
      some true
    else
      (ref21_Same rv70.1 rv84.1).bind fun rv160 =>
      some (!rv160))).bind fun c157 =>
    ((if c157 = true then
      some true
    else
      (ref21_Valid rv70.1).bind fun rv177 =>
      some (!rv177))).bind fun c174 =>
    (if (c174 || ((rv134.1.length : Int) != (rv122.1.length : Int))) = true then
      some false
    else
      whileM (law21_FilterConvolves_l2 rv40 rv54 rv122 rv134) (0)))

-- slices.Clone[[]int,int]
noncomputable def slices_Clone_Lint_int (s1 : (List Int)) : Option (List Int) :=
  (appM 8 ([] : List Int) s1).bind fun l11 =>
  some l11

-- seismonet/filter.Start
noncomputable def filter_Start (f1 : Filter) (number5 : Int) : Option (Feed × Int) :=
  (filter_Valid f1).bind fun rv9 =>
  (if (!rv9) = true then
    some ((⟨(⟨([] : List Int), 0, 0⟩ : Filter), ([] : List Int), 0⟩ : Feed), 1)
  else
    (filter_in number5 0 9007199254740992).bind fun rv18 =>
    (if (!rv18) = true then
      some ((⟨(⟨([] : List Int), 0, 0⟩ : Filter), ([] : List Int), 0⟩ : Feed), 2)
    else
      (slices_Clone_Lint_int f1.Taps).bind fun rv27 =>
      some ((⟨(⟨rv27, f1.Factor, f1.Shift⟩ : Filter), ([] : List Int), number5⟩ : Feed), 0)))

-- seismonet/filter.ValidFeed
noncomputable def filter_ValidFeed (d1 : Feed) : Option Bool :=
  (filter_Valid d1.Filter).bind fun rv10 =>
  ((if (rv10 && (decide ((d1.Past.length : Int) < (d1.Filter.Taps.length : Int)))) = true then
    (slices_ContainsFunc_Lint_int d1.Past filter_wrong).bind fun rv28 =>
    some (!rv28)
  else
    some false)).bind fun c25 =>
  ((if c25 = true then
    (filter_in d1.Number (d1.Past.length : Int) 18014398509481984).bind fun rv45 =>
    some rv45
  else
    some false)).bind fun c42 =>
  some c42

-- slices.Grow[[]int,int]
noncomputable def slices_Grow_Lint_int_n_j1 (sv23 : (List Int)) : Option (List Int) :=
  some sv23
noncomputable def slices_Grow_Lint_int_n (n1 : Int) : Option (List Int) :=
  (if (decide (n1 < 0)) = true then
    none
  else
    (some (w64 (n1 - (w64 (((0 : Nat) : Int) - (([] : List Int).length : Int)))))).bind fun n5 =>
    (if (decide (0 < n5)) = true then
      (subM ([] : List Int) 0 ((0 : Nat) : Int)).bind fun l28 =>
      (makeM 8 (0 : Int) n5).bind fun l30 =>
      (subM l30 0 (([] : List Int).length : Int)).bind fun l36 =>
      slices_Grow_Lint_int_n_j1 l36
    else
      slices_Grow_Lint_int_n_j1 ([] : List Int)))

-- slices.Concat[[]int,int]
noncomputable def slices_Concat_Lint_int_l1 (slices1 : (List (List Int))) (sv5 : (Int × Int)) : Option ((Int × Int) ⊕ Int) :=
  (if (decide (sv5.2 < (slices1.length : Int))) = true then
    (ix slices1 sv5.2).bind fun x100 =>
    (some (w64 (sv5.1 + (x100.length : Int)))).bind fun size116 =>
    (if (decide (size116 < 0)) = true then
      none
    else
      some (Sum.inl (size116, (w64 (sv5.2 + 1)))))
  else
    some (Sum.inr sv5.1))
noncomputable def slices_Concat_Lint_int_l2 (slices1 : (List (List Int))) (sv131 : ((List Int) × Int)) : Option (((List Int) × Int) ⊕ (List Int)) :=
  (if (decide (sv131.2 < (slices1.length : Int))) = true then
    (ix slices1 sv131.2).bind fun x243 =>
    (appM 8 sv131.1 x243).bind fun l259 =>
    some (Sum.inl (l259, (w64 (sv131.2 + 1))))
  else
    some (Sum.inr sv131.1))
noncomputable def slices_Concat_Lint_int (slices1 : (List (List Int))) : Option (List Int) :=
  (whileM (slices_Concat_Lint_int_l1 slices1) (0, 0)).bind fun e74 =>
  (slices_Grow_Lint_int_n e74).bind fun rv121 =>
  (whileM (slices_Concat_Lint_int_l2 slices1) (rv121, 0)).bind fun e212 =>
  some e212

-- seismonet/filter.Push
noncomputable def filter_Push (d1 : Feed) (samples8 : (List Int)) : Option (Feed × (List Int) × Int) :=
  (filter_ValidFeed d1).bind fun rv15 =>
  (if (!rv15) = true then
    some ((⟨(⟨([] : List Int), 0, 0⟩ : Filter), ([] : List Int), 0⟩ : Feed), ([] : List Int), 1)
  else
    (filter_check samples8 d1.Number 18014398509481984).bind fun rv24 =>
    (if (rv24 != 0) = true then
      some ((⟨(⟨([] : List Int), 0, 0⟩ : Filter), ([] : List Int), 0⟩ : Feed), ([] : List Int), rv24)
    else
      (slices_Concat_Lint_int ([d1.Past, samples8] : List (List Int))).bind fun rv35 =>
      (some (d1.Past.length : Int)).bind fun n47 =>
      (filter_outputs d1.Filter rv35 (w64 (d1.Number - n47)) n47).bind fun rv49 =>
      (slices_Clone_Lint_int d1.Filter.Taps).bind fun rv61 =>
      (subM rv35 (max 0 (w64 ((w64 ((rv35.length : Int) - (rv61.length : Int))) + 1))) (rv35.length : Int)).bind fun l76 =>
      some ((⟨(⟨rv61, d1.Filter.Factor, d1.Filter.Shift⟩ : Filter), l76, (w64 (d1.Number + (samples8.length : Int)))⟩ : Feed), rv49, 0)))

-- seismonet/seismonetref21.SameFeed
noncomputable def ref21_SameFeed (a1 : Feed) (b8 : Feed) : Option Bool :=
  (ref21_Same a1.Filter b8.Filter).bind fun rv18 =>
  ((if (rv18 && (a1.Number == b8.Number)) = true then
    (ref05_Same a1.Past b8.Past).bind fun rv36 =>
    some rv36
  else
    some false)).bind fun c33 =>
  some c33

-- seismonet/seismonetlaw21.FilterStream
noncomputable def law21_FilterStream_l2 (rv55 : ((List Int) × Dice)) (rv70 : (Feed × Int)) (rv86 : (Feed × (List Int) × Int)) (rv107 : ((List Int) × Int)) (sv269 : ((List Int) × Int × (List Int) × Int × Int × (List Int) × Int × (List Int) × Int)) : Option (((List Int) × Int × (List Int) × Int × Int × (List Int) × Int × (List Int) × Int) ⊕ Bool) :=
  (if ((decide (sv269.2.2.2.2.2.2.2.2 < (rv55.1.length : Int))) && (rv70.2 == 0)) = true then
    (made_Dice_Next (⟨sv269.1, sv269.2.1⟩ : Dice) 7).bind fun rv467 =>
    (some (min (w64 ((w64 (sv269.2.2.2.2.2.2.2.2 + 1)) + rv467.1)) (rv55.1.length : Int))).bind fun to477 =>
    (subM rv55.1 sv269.2.2.2.2.2.2.2.2 to477).bind fun l483 =>
    (filter_Push (⟨(⟨sv269.2.2.1, sv269.2.2.2.1, sv269.2.2.2.2.1⟩ : Filter), sv269.2.2.2.2.2.1, sv269.2.2.2.2.2.2.1⟩ : Feed) l483).bind fun rv485 =>
    (if (rv485.2.2 != 0) = true then
      some (Sum.inr false)
    else
      (appM 8 sv269.2.2.2.2.2.2.2.1 rv485.2.1).bind fun l513 =>
      some (Sum.inl (rv467.2.L, rv467.2.At, rv485.1.Filter.Taps, rv485.1.Filter.Factor, rv485.1.Filter.Shift, rv485.1.Past, rv485.1.Number, l513, to477)))
  else
    Option.map Sum.inr (((if (((rv70.2 == 0) && (rv86.2.2 == 0)) && (rv107.2 == 0)) = true then
      (ref05_Same sv269.2.2.2.2.2.2.2.1 rv107.1).bind fun rv532 =>
      some rv532
    else
      some false)).bind fun c529 =>
    ((if c529 = true then
      (ref05_Same rv86.2.1 rv107.1).bind fun rv549 =>
      some rv549
    else
      some false)).bind fun c546 =>
    ((if c546 = true then
      (ref21_SameFeed (⟨(⟨sv269.2.2.1, sv269.2.2.2.1, sv269.2.2.2.2.1⟩ : Filter), sv269.2.2.2.2.2.1, sv269.2.2.2.2.2.2.1⟩ : Feed) rv86.1).bind fun rv566 =>
      some rv566
    else
      some false)).bind fun c563 =>
    ((if c563 = true then
      (law21_sane).bind fun rv583 =>
      some rv583
    else
      some false)).bind fun c580 =>
    some c580))
noncomputable def law21_FilterStream (t1 : (List Int)) (n5 : Int) : Option Bool :=
  (made_Light t1).bind fun rv7 =>
  (if (!rv7) = true then
    (law21_sane).bind fun rv23 =>
    some rv23
  else
    (made_Roll t1).bind fun rv30 =>
    (made_Dice_Filter rv30).bind fun rv41 =>
    (made_Dice_Samples rv41.2 40).bind fun rv55 =>
    (filter_Start rv41.1 (w64 n5)).bind fun rv70 =>
    (filter_Push rv70.1 rv55.1).bind fun rv86 =>
    (filter_Apply rv41.1 rv55.1 (w64 n5)).bind fun rv107 =>
    whileM (law21_FilterStream_l2 rv55 rv70 rv86 rv107) (rv55.2.L, rv55.2.At, rv70.1.Filter.Taps, rv70.1.Filter.Factor, rv70.1.Filter.Shift, rv70.1.Past, rv70.1.Number, ([] : List Int), 0))

-- (*seismonet/seismonetmade.Dice).Wave
noncomputable def made_Dice_Wave_j2 (sv19 : ((List Int) × Int × (List Int) × Int × Int)) (x517 : (List Int)) (x518 : Int) (loud519 : Int) (x520 : Int) : Option (((List Int) × Int × (List Int) × Int × Int) ⊕ ((List Int) × Int × (List Int))) :=
  (appM 8 sv19.2.2.1 ([x520] : List Int)).bind fun l524 =>
  (some (w64 (sv19.2.2.2.2 - 1))).bind fun i529 =>
  some (Sum.inl (x517, x518, l524, loud519, i529))
noncomputable def made_Dice_Wave_j1 (sv19 : ((List Int) × Int × (List Int) × Int × Int)) (x474 : (List Int)) (x475 : Int) (loud476 : Int) : Option (((List Int) × Int × (List Int) × Int × Int) ⊕ ((List Int) × Int × (List Int))) :=
  (made_Dice_Next (⟨x474, x475⟩ : Dice) 5).bind fun rv478 =>
  (some (w64 (rv478.1 - 2))).bind fun x488 =>
  (if (decide (0 < loud476)) = true then
    (made_Dice_Next rv478.2 60).bind fun rv532 =>
    (made_Dice_Next rv532.2 2).bind fun rv542 =>
    (some (w64 ((w64 (rv532.1 + 20)) * (w64 (1 - (w64 (2 * rv542.1))))))).bind fun x552 =>
    (some (w64 (loud476 - 1))).bind fun loud554 =>
    made_Dice_Wave_j2 sv19 rv542.2.L rv542.2.At loud554 x552
  else
    made_Dice_Wave_j2 sv19 rv478.2.L rv478.2.At loud476 x488)
noncomputable def made_Dice_Wave_l1 (sv19 : ((List Int) × Int × (List Int) × Int × Int)) : Option (((List Int) × Int × (List Int) × Int × Int) ⊕ ((List Int) × Int × (List Int))) :=
  (if (decide (0 < sv19.2.2.2.2)) = true then
    ((if (sv19.2.2.2.1 == 0) = true then
      (made_Dice_Next (⟨sv19.1, sv19.2.1⟩ : Dice) 7).bind fun rv449 =>
      some (rv449.2.L, rv449.2.At, (rv449.1 == 0))
    else
      some (sv19.1, sv19.2.1, false))).bind fun c444 =>
    (if c444.2.2 = true then
      (made_Dice_Next (⟨c444.1, c444.2.1⟩ : Dice) 6).bind fun rv557 =>
      (some (w64 (1 + rv557.1))).bind fun loud567 =>
      made_Dice_Wave_j1 sv19 rv557.2.L rv557.2.At loud567
    else
      made_Dice_Wave_j1 sv19 c444.1 c444.2.1 sv19.2.2.2.1)
  else
    some (Sum.inr (sv19.1, sv19.2.1, sv19.2.2.1)))
noncomputable def made_Dice_Wave (d1 : Dice) (n6 : Int) : Option ((List Int) × Dice) :=
  (made_Dice_Next d1 n6).bind fun rv8 =>
  (some (w64 (1 + rv8.1))).bind fun i18 =>
  (whileM (made_Dice_Wave_l1) (rv8.2.L, rv8.2.At, ([] : List Int), 0, i18)).bind fun e329 =>
  some (e329.2.2, (⟨e329.1, e329.2.1⟩ : Dice))

-- seismonet/continuity.body
noncomputable def continuity_body (s1 : Segment) : Option Record :=
  some (⟨(⟨(⟨#[78]⟩ : ByteArray), (⟨#[83]⟩ : ByteArray), ByteArray.empty, (⟨#[67, 72, 65]⟩ : ByteArray)⟩ : SourceID), s1.Start, s1.First, s1.Rate, s1.Error, 0, 0, s1.Samples⟩ : Record)

-- seismonet/source.plain
noncomputable def source_plain (c1 : Int) : Option Bool :=
  some (((decide (65 ≤ c1)) && (decide (c1 ≤ 90))) || ((decide (48 ≤ c1)) && (decide (c1 ≤ 57))))

-- seismonet/source.code
noncomputable def source_code_l2 (s1 : ByteArray) (low2 : Int) (high3 : Int) (sv42 : Int) : Option (Int ⊕ Bool) :=
  (if (decide (sv42 < (s1.size : Int))) = true then
    (byteAt s1 sv42).bind fun c95 =>
    (source_plain c95).bind fun rv97 =>
    (if (!rv97) = true then
      some (Sum.inr false)
    else
      some (Sum.inl (w64 (sv42 + 1))))
  else
    Option.map Sum.inr (some ((decide (low2 ≤ (s1.size : Int))) && (decide ((s1.size : Int) ≤ high3)))))
noncomputable def source_code (s1 : ByteArray) (low2 : Int) (high3 : Int) : Option Bool :=
  whileM (source_code_l2 s1 low2 high3) (0)

-- seismonet/source.Valid
noncomputable def source_Valid (s1 : SourceID) : Option Bool :=
  (source_code s1.Network 1 2).bind fun rv4 =>
  ((if rv4 = true then
    (source_code s1.Station 1 5).bind fun rv21 =>
    some rv21
  else
    some false)).bind fun c18 =>
  ((if c18 = true then
    (source_code s1.Location 0 2).bind fun rv38 =>
    some rv38
  else
    some false)).bind fun c35 =>
  ((if (c35 && ((s1.Location.size : Int) != 1)) = true then
    (source_code s1.Channel 3 3).bind fun rv56 =>
    some rv56
  else
    some false)).bind fun c53 =>
  some c53

-- seismonet/record.in
noncomputable def record_in (n1 : Int) (low2 : Int) (high3 : Int) : Option Bool :=
  some ((decide (low2 ≤ n1)) && (decide (n1 ≤ high3)))

-- seismonet/rate.in
noncomputable def rate_in (n1 : Int) (low2 : Int) (high3 : Int) : Option Bool :=
  some ((decide (low2 ≤ n1)) && (decide (n1 ≤ high3)))

-- seismonet/rate.gcd
noncomputable def rate_gcd_l1 (sv3 : (Int × Int)) : Option ((Int × Int) ⊕ Int) :=
  (if (sv3.2 != 0) = true then
    (remM sv3.1 sv3.2).bind fun rem29 =>
    some (Sum.inl (sv3.2, rem29))
  else
    some (Sum.inr sv3.1))
noncomputable def rate_gcd (a1 : Int) (b2 : Int) : Option Int :=
  (whileM (rate_gcd_l1) (a1, b2)).bind fun e21 =>
  some e21

-- seismonet/rate.Valid
noncomputable def rate_Valid (r1 : Rate) : Option Bool :=
  (rate_in r1.Num 1 4096).bind fun rv4 =>
  ((if rv4 = true then
    (rate_in r1.Den 1 4096).bind fun rv21 =>
    some rv21
  else
    some false)).bind fun c18 =>
  ((if c18 = true then
    (rate_gcd r1.Num r1.Den).bind fun rv38 =>
    some (rv38 == 1)
  else
    some false)).bind fun c35 =>
  some c35

-- seismonet/rate.micros
noncomputable def rate_micros (r1 : Rate) : Option Int :=
  (some (w64 (r1.Den * 1000000))).bind fun x4 =>
  some x4

-- seismonet/rate.after
noncomputable def rate_after (r1 : Rate) (k2 : Int) : Option Int :=
  (rate_micros r1).bind fun rv5 =>
  (quoM .i64 (w64 (k2 * rv5)) r1.Num).bind fun quo7 =>
  some quo7

-- seismonet/rate.Time
noncomputable def rate_Time (start1 : Int) (r2 : Rate) (k3 : Int) : Option (Int × Int) :=
  (rate_Valid r2).bind fun rv6 =>
  (if (!rv6) = true then
    some (0, 1)
  else
    (rate_in start1 0 9007199254740992).bind fun rv15 =>
    ((if (!rv15) = true then
      some true
    else
      (rate_in k3 0 16777216).bind fun rv32 =>
      some (!rv32))).bind fun c29 =>
    (if c29 = true then
      some (0, 2)
    else
      (rate_after r2 k3).bind fun rv41 =>
      (some (w64 (start1 + rv41))).bind fun x48 =>
      some (x48, 0)))

-- seismonet/record.Valid$1
noncomputable def record_Valid_fn1 (x1 : Int) : Option Bool :=
  (record_in x1 (-1073741823) 1073741823).bind fun rv3 =>
  some (!rv3)

-- seismonet/record.Valid
noncomputable def record_Valid (r1 : Record) : Option Bool :=
  (some (r1.Samples.length : Int)).bind fun n7 =>
  (source_Valid r1.Source).bind fun rv9 =>
  ((if (!rv9) = true then
    some true
  else
    (record_in n7 1 65536).bind fun rv26 =>
    some (!rv26))).bind fun c23 =>
  ((if c23 = true then
    some true
  else
    (record_in r1.First 0 (w64 (16777216 - n7))).bind fun rv43 =>
    some (!rv43))).bind fun c40 =>
  ((if c40 = true then
    some true
  else
    (record_in r1.Error 0 1099511627776).bind fun rv60 =>
    some (!rv60))).bind fun c57 =>
  ((if c57 = true then
    some true
  else
    (record_in r1.Run 0 65535).bind fun rv77 =>
    some (!rv77))).bind fun c74 =>
  ((if c74 = true then
    some true
  else
    (record_in r1.Seq 0 1073741824).bind fun rv94 =>
    some (!rv94))).bind fun c91 =>
  (if c91 = true then
    some false
  else
    (rate_Time r1.Start r1.Rate (w64 (r1.First + n7))).bind fun rv103 =>
    ((if ((rv103.2 == 0) && (decide (rv103.1 ≤ 9007199254740992))) = true then
      (slices_ContainsFunc_Lint_int r1.Samples record_Valid_fn1).bind fun rv121 =>
      some (!rv121)
    else
      some false)).bind fun c118 =>
    some c118)

-- seismonet/continuity.ValidSegment
noncomputable def continuity_ValidSegment (s1 : Segment) : Option Bool :=
  (continuity_body s1).bind fun rv7 =>
  (record_Valid rv7).bind fun rv17 =>
  some rv17

-- seismonet/rate.Slower
noncomputable def rate_Slower (r1 : Rate) (factor2 : Int) : Option (Rate × Int) :=
  (rate_Valid r1).bind fun rv6 =>
  (if (!rv6) = true then
    some ((⟨0, 0⟩ : Rate), 1)
  else
    (rate_in factor2 1 64).bind fun rv15 =>
    (if (!rv15) = true then
      some ((⟨0, 0⟩ : Rate), 2)
    else
      (rate_gcd r1.Num factor2).bind fun rv24 =>
      (quoM .i64 r1.Num rv24).bind fun quo31 =>
      (quoM .i64 factor2 rv24).bind fun quo33 =>
      (rate_Valid (⟨quo31, (w64 (r1.Den * quo33))⟩ : Rate)).bind fun rv37 =>
      (if (!rv37) = true then
        some ((⟨0, 0⟩ : Rate), 8)
      else
        some ((⟨quo31, (w64 (r1.Den * quo33))⟩ : Rate), 0))))

-- seismonet/rate.Number
noncomputable def rate_Number (r1 : Rate) (t2 : Int) : Option (Int × Int) :=
  (rate_Valid r1).bind fun rv5 =>
  (if (!rv5) = true then
    some (0, 1)
  else
    (rate_in t2 0 18014398509481984).bind fun rv14 =>
    (if (!rv14) = true then
      some (0, 2)
    else
      (rate_micros r1).bind fun rv23 =>
      (quoM .i64 t2 rv23).bind fun quo30 =>
      (remM t2 rv23).bind fun rem32 =>
      (quoM .i64 (w64 ((w64 ((w64 (2 * rem32)) * r1.Num)) + rv23)) (w64 (2 * rv23))).bind fun quo34 =>
      (some (w64 ((w64 (quo30 * r1.Num)) + quo34))).bind fun x36 =>
      some (x36, 0)))

-- seismonet/filter.Segment
noncomputable def filter_Segment_l1 (f1 : Filter) (rv56 : (Int × Int)) (sv77 : Int) : Option (Int ⊕ Int) :=
  (remM (w64 (rv56.1 + sv77)) f1.Factor).bind fun rem101 =>
  (if (rem101 != 0) = true then
    (some (w64 (sv77 + 1))).bind fun i107 =>
    some (Sum.inl i107)
  else
    some (Sum.inr sv77))
noncomputable def filter_Segment (f1 : Filter) (s5 : Segment) : Option (Segment × Bool × Int) :=
  (filter_Valid f1).bind fun rv13 =>
  ((if (!rv13) = true then
    some true
  else
    (continuity_ValidSegment s5).bind fun rv30 =>
    some (!rv30))).bind fun c27 =>
  (if c27 = true then
    some ((⟨0, 0, (⟨0, 0⟩ : Rate), 0, ([] : List Int)⟩ : Segment), false, 1)
  else
    (rate_Slower s5.Rate f1.Factor).bind fun rv39 =>
    (if (rv39.2 != 0) = true then
      some ((⟨0, 0, (⟨0, 0⟩ : Rate), 0, ([] : List Int)⟩ : Segment), false, 8)
    else
      (rate_Time s5.Start s5.Rate s5.First).bind fun rv49 =>
      (rate_Number s5.Rate rv49.1).bind fun rv56 =>
      (filter_outputs f1 s5.Samples rv56.1 0).bind fun rv63 =>
      (if ((rv63.length : Int) == 0) = true then
        some ((⟨0, 0, (⟨0, 0⟩ : Rate), 0, ([] : List Int)⟩ : Segment), false, 0)
      else
        (some (w64 ((f1.Taps.length : Int) - 1))).bind fun i76 =>
        (whileM (filter_Segment_l1 f1 rv56) (i76)).bind fun e98 =>
        (rate_Time s5.Start s5.Rate (w64 (s5.First + e98))).bind fun rv110 =>
        some ((⟨rv110.1, 0, rv39.1, (min (w64 (s5.Error + 1)) 1099511627776), rv63⟩ : Segment), true, 0))))

-- seismonet/seismonetref02.gcd
noncomputable def ref02_gcd_l1 (sv3 : (Int × Int)) : Option ((Int × Int) ⊕ Int) :=
  (if (sv3.2 != 0) = true then
    (remM sv3.1 sv3.2).bind fun rem29 =>
    some (Sum.inl (sv3.2, rem29))
  else
    some (Sum.inr sv3.1))
noncomputable def ref02_gcd (a1 : Int) (b2 : Int) : Option Int :=
  (whileM (ref02_gcd_l1) (a1, b2)).bind fun e21 =>
  some e21

-- seismonet/seismonetref02.Valid
noncomputable def ref02_Valid (r1 : Rate) : Option Bool :=
  (ref01_In r1.Num 1 4096).bind fun rv4 =>
  ((if rv4 = true then
    (ref01_In r1.Den 1 4096).bind fun rv21 =>
    some rv21
  else
    some false)).bind fun c18 =>
  ((if c18 = true then
    (ref02_gcd r1.Num r1.Den).bind fun rv38 =>
    some (rv38 == 1)
  else
    some false)).bind fun c35 =>
  some c35

-- seismonet/seismonetref02.Time
noncomputable def ref02_Time (start1 : Int) (r2 : Rate) (k3 : Int) : Option (Int × Int) :=
  (ref02_Valid r2).bind fun rv6 =>
  (if (!rv6) = true then
    some (0, 1)
  else
    (ref01_In start1 0 9007199254740992).bind fun rv15 =>
    ((if (!rv15) = true then
      some true
    else
      (ref01_In k3 0 16777216).bind fun rv32 =>
      some (!rv32))).bind fun c29 =>
    (if c29 = true then
      some (0, 2)
    else
      (quoM .i64 (w64 ((w64 (k3 * r2.Den)) * 1000000)) r2.Num).bind fun quo41 =>
      (some (w64 (start1 + quo41))).bind fun x43 =>
      some (x43, 0)))

-- seismonet/seismonetlaw21.FilterLate
noncomputable def law21_FilterLate_l2 (rv41 : (Filter × Dice)) (rv58 : (Int × Dice)) (rem84 : Int) (rv95 : (Segment × Bool × Int)) (rv108 : (Segment × Bool × Int)) (off159 : Int) (sv298 : Int) : Option (Int ⊕ Bool) :=
  (if (decide (sv298 < (rv108.1.Samples.length : Int))) = true then
    (ref02_Time rv95.1.Start rv95.1.Rate (w64 (off159 + sv298))).bind fun rv479 =>
    (ref02_Time rv108.1.Start rv108.1.Rate sv298).bind fun rv486 =>
    (ix rv95.1.Samples (w64 (off159 + sv298))).bind fun x494 =>
    (ix rv108.1.Samples sv298).bind fun x507 =>
    (if ((x494 != x507) || (rv479.1 != rv486.1)) = true then
      some (Sum.inr false)
    else
      some (Sum.inl (w64 (sv298 + 1))))
  else
    Option.map Sum.inr ((ref02_Time 1000000000000 (⟨rv58.1, 1⟩ : Rate) (w64 ((w64 (rem84 + (rv41.1.Taps.length : Int))) - 1))).bind fun rv526 =>
    ((if (decide (rv526.1 ≤ rv108.1.Start)) = true then
      (law21_sane).bind fun rv543 =>
      some rv543
    else
      some false)).bind fun c540 =>
    some c540))
noncomputable def law21_FilterLate (t1 : (List Int)) (n5 : Int) : Option Bool :=
  (made_Light t1).bind fun rv7 =>
  (if (!rv7) = true then
    (law21_sane).bind fun rv23 =>
    some rv23
  else
    (made_Roll t1).bind fun rv30 =>
    (made_Dice_Filter rv30).bind fun rv41 =>
    (made_Dice_Pick rv41.2 ([1, 2, 4, 20] : List Int)).bind fun rv58 =>
    (made_Dice_Wave rv58.2 40).bind fun rv69 =>
    (remM (w64 n5) (rv69.1.length : Int)).bind fun rem84 =>
    (subM rv69.1 rem84 (rv69.1.length : Int)).bind fun l92 =>
    (filter_Segment rv41.1 (⟨1000000000000, 0, (⟨rv58.1, 1⟩ : Rate), 0, rv69.1⟩ : Segment)).bind fun rv95 =>
    (filter_Segment rv41.1 (⟨1000000000000, rem84, (⟨rv58.1, 1⟩ : Rate), 0, l92⟩ : Segment)).bind fun rv108 =>
    (if ((rv95.2.2 != 0) || (rv108.2.2 != 0)) = true then
      some false
    else
      (if (!rv108.2.1) = true then
        ((if (decide ((l92.length : Int) < (w64 ((rv41.1.Taps.length : Int) + rv41.1.Factor)))) = true then
          (law21_sane).bind fun rv152 =>
          some rv152
        else
          some false)).bind fun c149 =>
        some c149
      else
        (some (w64 ((rv95.1.Samples.length : Int) - (rv108.1.Samples.length : Int)))).bind fun off159 =>
        (if (((!rv95.2.1) || (decide (off159 < 0))) || (!((rv95.1.Rate.Num == rv108.1.Rate.Num) && ((rv95.1.Rate.Den == rv108.1.Rate.Den) && true)))) = true then
          some false
        else
          whileM (law21_FilterLate_l2 rv41 rv58 rem84 rv95 rv108 off159) (0)))))

-- (*seismonet/seismonetmade.Dice).Stage
noncomputable def made_Dice_Stage_l1 (sv394 : ((List Int) × Int × (List Int) × Int)) : Option (((List Int) × Int × (List Int) × Int) ⊕ ((List Int) × Int × (List Int))) :=
  (if (decide (0 < sv394.2.2.2)) = true then
    (made_Dice_Next (⟨sv394.1, sv394.2.1⟩ : Dice) 4).bind fun rv525 =>
    (appM 8 ([rv525.1] : List Int) sv394.2.2.1).bind fun l537 =>
    (appM 8 l537 ([rv525.1] : List Int)).bind fun l544 =>
    (some (w64 (sv394.2.2.2 - 1))).bind fun i549 =>
    some (Sum.inl (rv525.2.L, rv525.2.At, l544, i549))
  else
    some (Sum.inr (sv394.1, sv394.2.1, sv394.2.2.1)))
noncomputable def made_Dice_Stage_j2 (rv363 : (Int × Dice)) (rv374 : (Int × Dice)) (rv552 : (Int × Dice)) (x573 : (List Int)) : Option (Stage × Dice) :=
  some ((⟨2, (⟨0, 0, 0⟩ : (Arr3 Int)), (⟨0, 0, 0⟩ : (Arr3 Int)), x573, rv363.1, rv374.1⟩ : Stage), rv552.2)
noncomputable def made_Dice_Stage (d1 : Dice) : Option (Stage × Dice) :=
  (made_Dice_Next d1 3).bind fun rv8 =>
  (if (rv8.1 == 0) = true then
    (made_Dice_Next rv8.2 9).bind fun rv195 =>
    (made_Dice_Next rv195.2 9).bind fun rv205 =>
    some ((⟨0, (⟨(w64 (1 + rv195.1)), 0, 0⟩ : (Arr3 Int)), (⟨(w64 (1 + rv205.1)), 0, 0⟩ : (Arr3 Int)), ([] : List Int), 0, 0⟩ : Stage), rv205.2)
  else
    (if (rv8.1 == 1) = true then
      (made_Dice_Next rv8.2 9).bind fun rv283 =>
      (made_Dice_Next rv283.2 9).bind fun rv293 =>
      (made_Dice_Next rv293.2 3).bind fun rv303 =>
      (made_Dice_Pick rv303.2 ([1, 2, (-3), 1048576] : List Int)).bind fun rv315 =>
      (made_Dice_Next rv315.2 9).bind fun rv326 =>
      (made_Dice_Pick rv326.2 ([0, 1, 1048576] : List Int)).bind fun rv338 =>
      some ((⟨1, (⟨(w64 (rv283.1 - 4)), (w64 (rv293.1 - 4)), rv303.1⟩ : (Arr3 Int)), (⟨rv315.1, (w64 (rv326.1 - 4)), rv338.1⟩ : (Arr3 Int)), ([] : List Int), 0, 0⟩ : Stage), rv338.2)
    else
      (made_Dice_Next rv8.2 4).bind fun rv349 =>
      (made_Dice_Pick rv349.2 ([1, 1, 2, 5] : List Int)).bind fun rv363 =>
      (made_Dice_Next rv363.2 5).bind fun rv374 =>
      (made_Dice_Next rv374.2 3).bind fun rv385 =>
      (whileM (made_Dice_Stage_l1) (rv385.2.L, rv385.2.At, ([(w64 (1 + rv349.1))] : List Int), rv385.1)).bind fun e491 =>
      (made_Dice_Next (⟨e491.1, e491.2.1⟩ : Dice) 6).bind fun rv552 =>
      (if (rv552.1 == 0) = true then
        (appM 8 e491.2.2 ([3] : List Int)).bind fun l578 =>
        made_Dice_Stage_j2 rv363 rv374 rv552 l578
      else
        made_Dice_Stage_j2 rv363 rv374 rv552 e491.2.2)))

-- seismonet/response.in
noncomputable def response_in (n1 : Int) (low2 : Int) (high3 : Int) : Option Bool :=
  some ((decide (low2 ≤ n1)) && (decide (n1 ≤ high3)))

-- seismonet/response.terms$1
noncomputable def response_terms_fn1 (n1 : Int) : Option Bool :=
  (response_in n1 (-1048576) 1048576).bind fun rv3 =>
  some (!rv3)

-- seismonet/response.terms
noncomputable def response_terms (l1 : (List Int)) : Option Bool :=
  (slices_ContainsFunc_Lint_int l1 response_terms_fn1).bind fun rv6 =>
  some (!rv6)

-- seismonet/response.sum
noncomputable def response_sum_l1 (l1 : (List Int)) (sv5 : (Int × Int)) : Option ((Int × Int) ⊕ Int) :=
  (if (decide (sv5.2 < (l1.length : Int))) = true then
    (ix l1 sv5.2).bind fun x80 =>
    (some (w64 (sv5.1 + x80))).bind fun n92 =>
    some (Sum.inl (n92, (w64 (sv5.2 + 1))))
  else
    some (Sum.inr sv5.1))
noncomputable def response_sum (l1 : (List Int)) : Option Int :=
  (whileM (response_sum_l1 l1) (0, 0)).bind fun e59 =>
  some e59

-- seismonet/response.ValidStage
noncomputable def response_ValidStage (s1 : Stage) : Option Bool :=
  (if (s1.Kind == 0) = true then
    ((if ((((((s1.Taps.length : Int) == 0) && (s1.Factor == 0)) && (s1.Shift == 0)) && ((s1.Num.e0 == s1.Num.e0) && ((s1.Num.e1 == 0) && ((s1.Num.e2 == 0) && true)))) && ((s1.Den.e0 == s1.Den.e0) && ((s1.Den.e1 == 0) && ((s1.Den.e2 == 0) && true)))) = true then
      (response_in s1.Num.e0 1 1048576).bind fun rv356 =>
      some rv356
    else
      some false)).bind fun c353 =>
    ((if c353 = true then
      (response_in s1.Den.e0 1 1048576).bind fun rv373 =>
      some rv373
    else
      some false)).bind fun c370 =>
    some c370
  else
    (if (s1.Kind == 1) = true then
      ((if ((((s1.Taps.length : Int) == 0) && (s1.Factor == 0)) && (s1.Shift == 0)) = true then
        (response_terms ([s1.Num.e0, s1.Num.e1, s1.Num.e2] : List Int)).bind fun rv523 =>
        some rv523
      else
        some false)).bind fun c519 =>
      ((if c519 = true then
        (response_terms ([s1.Den.e0, s1.Den.e1, s1.Den.e2] : List Int)).bind fun rv541 =>
        some rv541
      else
        some false)).bind fun c538 =>
      some (c538 && (s1.Den.e0 != 0))
    else
      (if (s1.Kind == 2) = true then
        ((if (((s1.Num.e0 == 0) && ((s1.Num.e1 == 0) && ((s1.Num.e2 == 0) && true))) && ((s1.Den.e0 == 0) && ((s1.Den.e1 == 0) && ((s1.Den.e2 == 0) && true)))) = true then
          (response_in (s1.Taps.length : Int) 1 128).bind fun rv650 =>
          some rv650
        else
          some false)).bind fun c647 =>
        ((if c647 = true then
          (response_terms s1.Taps).bind fun rv667 =>
          some rv667
        else
          some false)).bind fun c664 =>
        ((if c664 = true then
          (response_sum s1.Taps).bind fun rv684 =>
          some (rv684 != 0)
        else
          some false)).bind fun c681 =>
        ((if c681 = true then
          (response_in s1.Factor 1 64).bind fun rv701 =>
          some rv701
        else
          some false)).bind fun c698 =>
        ((if c698 = true then
          (response_in s1.Shift 0 40).bind fun rv718 =>
          some rv718
        else
          some false)).bind fun c715 =>
        some c715
      else
        some false)))

-- seismonet/filter.Stage
noncomputable def filter_Stage (s1 : Stage) : Option (Filter × Int) :=
  (response_ValidStage s1).bind fun rv8 =>
  (if ((!rv8) || (s1.Kind != 2)) = true then
    some ((⟨([] : List Int), 0, 0⟩ : Filter), 1)
  else
    (slices_Clone_Lint_int s1.Taps).bind fun rv18 =>
    (filter_Valid (⟨rv18, s1.Factor, s1.Shift⟩ : Filter)).bind fun rv36 =>
    (if (!rv36) = true then
      some ((⟨([] : List Int), 0, 0⟩ : Filter), 8)
    else
      some ((⟨rv18, s1.Factor, s1.Shift⟩ : Filter), 0)))

-- seismonet/seismonetlaw21.FilterStages
noncomputable def law21_FilterStages_l1 (rv40 : (Stage × Dice)) (sv151 : (Int × Int)) : Option ((Int × Int) ⊕ Int) :=
  (if (decide (sv151.2 < (rv40.1.Taps.length : Int))) = true then
    (ix rv40.1.Taps sv151.2).bind fun x226 =>
    (some (w64 (sv151.1 + (max x226 (w64 (0 - x226)))))).bind fun sum238 =>
    some (Sum.inl (sum238, (w64 (sv151.2 + 1))))
  else
    some (Sum.inr sv151.1))
noncomputable def law21_FilterStages (t1 : (List Int)) : Option Bool :=
  (made_Light t1).bind fun rv6 =>
  (if (!rv6) = true then
    (law21_sane).bind fun rv22 =>
    some rv22
  else
    (made_Roll t1).bind fun rv29 =>
    (made_Dice_Stage rv29).bind fun rv40 =>
    (made_Dice_Samples rv40.2 20).bind fun rv54 =>
    (filter_Stage rv40.1).bind fun rv69 =>
    (if (rv40.1.Kind != 2) = true then
      ((if (rv69.2 == 1) = true then
        (ref21_Same rv69.1 (⟨([] : List Int), 0, 0⟩ : Filter)).bind fun rv128 =>
        some rv128
      else
        some false)).bind fun c125 =>
      ((if c125 = true then
        (law21_sane).bind fun rv145 =>
        some rv145
      else
        some false)).bind fun c142 =>
      some c142
    else
      (whileM (law21_FilterStages_l1 rv40) (0, 0)).bind fun e205 =>
      (shlM .i64 1 (IntKind.u64.wrap rv40.1.Shift)).bind fun shl241 =>
      (if ((!((decide (e205 ≤ shl241)) == (rv69.2 == 0))) || ((!(decide (e205 ≤ shl241))) && (rv69.2 != 8))) = true then
        some false
      else
        (filter_Apply (⟨([128] : List Int), 1, 7⟩ : Filter) rv54.1 5).bind fun rv253 =>
        ((if (rv69.2 != 0) = true then
          some true
        else
          (ref05_Same rv69.1.Taps rv40.1.Taps).bind fun rv280 =>
          some ((rv280 && (rv69.1.Factor == rv40.1.Factor)) && (rv69.1.Shift == rv40.1.Shift)))).bind fun c277 =>
        ((if (c277 && (rv253.2 == 0)) = true then
          (ref05_Same rv253.1 rv54.1).bind fun rv302 =>
          some rv302
        else
          some false)).bind fun c299 =>
        ((if c299 = true then
          (law21_sane).bind fun rv319 =>
          some rv319
        else
          some false)).bind fun c316 =>
        some c316)))

-- seismonet/seismonetlaw21.odd
noncomputable def law21_odd_j1 (x186 : (List Int)) (x187 : Int) (x188 : (List Int)) (x189 : Int) (x190 : Int) : Option (Filter × Dice) :=
  some ((⟨x188, x189, x190⟩ : Filter), (⟨x186, x187⟩ : Dice))
noncomputable def law21_odd_j2 (x275 : (List Int)) (x276 : Int) (x277 : (List Int)) (x278 : Int) (x279 : Int) : Option (Filter × Dice) :=
  law21_odd_j1 x275 x276 x277 x278 x279
noncomputable def law21_odd_j3 (f6 : Filter) (x320 : (List Int)) (x321 : Int) (x322 : (List Int)) (x323 : Int) : Option (Filter × Dice) :=
  law21_odd_j2 x320 x321 x322 f6.Factor x323
noncomputable def law21_odd_j4 (f6 : Filter) (rv18 : (Int × Dice)) (x343 : (List Int)) : Option (Filter × Dice) :=
  law21_odd_j3 f6 rv18.2.L rv18.2.At x343 f6.Shift
noncomputable def law21_odd (d1 : Dice) (f6 : Filter) : Option (Filter × Dice) :=
  (appM 8 ([] : List Int) f6.Taps).bind fun l13 =>
  (made_Dice_Next d1 5).bind fun rv18 =>
  (if (rv18.1 == 0) = true then
    (made_Dice_Pick rv18.2 ([1, (-1), 1073741824, 2147483648] : List Int)).bind fun rv195 =>
    (appM 8 l13 ([rv195.1] : List Int)).bind fun l202 =>
    law21_odd_j1 rv195.2.L rv195.2.At l202 f6.Factor f6.Shift
  else
    (if (rv18.1 == 1) = true then
      (made_Dice_Pick rv18.2 ([0, 64, 65] : List Int)).bind fun rv284 =>
      law21_odd_j2 rv284.2.L rv284.2.At l13 rv284.1 f6.Shift
    else
      (if (rv18.1 == 2) = true then
        (made_Dice_Pick rv18.2 ([(-1), 0, 30, 31] : List Int)).bind fun rv328 =>
        law21_odd_j3 f6 rv328.2.L rv328.2.At l13 rv328.1
      else
        (if (rv18.1 == 3) = true then
          law21_odd_j4 f6 rv18 ([] : List Int)
        else
          law21_odd_j4 f6 rv18 l13))))

-- seismonet/seismonetref21.check
noncomputable def ref21_check (samples1 : (List Int)) (number5 : Int) (most6 : Int) : Option Int :=
  (ref01_In number5 0 most6).bind fun rv8 =>
  ((if (!rv8) = true then
    some true
  else
    (ref05_InRange samples1).bind fun rv25 =>
    some (!rv25))).bind fun c22 =>
  (if c22 = true then
    some 2
  else
    (if (decide (65536 < (samples1.length : Int))) = true then
      some 8
    else
      some 0))

-- seismonet/seismonetref21.output
noncomputable def ref21_output_l1 (f1 : Filter) (x5 : (List Int)) (i9 : Int) (sv11 : (Int × Int)) : Option ((Int × Int) ⊕ Int) :=
  (if (decide (sv11.2 < (f1.Taps.length : Int))) = true then
    (ix f1.Taps sv11.2).bind fun x148 =>
    (ix x5 (w64 (i9 - sv11.2))).bind fun x161 =>
    (some (w64 (sv11.1 + (w64 (x148 * x161))))).bind fun sum173 =>
    (some (w64 (sv11.2 + 1))).bind fun k176 =>
    some (Sum.inl (sum173, k176))
  else
    some (Sum.inr sv11.1))
noncomputable def ref21_output (f1 : Filter) (x5 : (List Int)) (i9 : Int) : Option Int :=
  (whileM (ref21_output_l1 f1 x5 i9) (0, 0)).bind fun e113 =>
  (shrM .i64 e113 (IntKind.u64.wrap f1.Shift)).bind fun shr179 =>
  some shr179

-- seismonet/seismonetref21.kept
noncomputable def ref21_kept_j1 (sv14 : ((List Int) × (List Int) × Int)) (out214 : (List Int)) (atv215 : (List Int)) : Option (((List Int) × (List Int) × Int) ⊕ ((List Int) × (List Int))) :=
  (some (w64 (sv14.2.2 + 1))).bind fun i217 =>
  some (Sum.inl (out214, atv215, i217))
noncomputable def ref21_kept_l1 (f1 : Filter) (x5 : (List Int)) (number9 : Int) (sv14 : ((List Int) × (List Int) × Int)) : Option (((List Int) × (List Int) × Int) ⊕ ((List Int) × (List Int))) :=
  (if (decide (sv14.2.2 < (x5.length : Int))) = true then
    (remM (w64 (number9 + sv14.2.2)) f1.Factor).bind fun rem184 =>
    (if (rem184 == 0) = true then
      (ref21_output f1 x5 sv14.2.2).bind fun rv220 =>
      (appM 8 sv14.1 ([rv220] : List Int)).bind fun l229 =>
      (appM 8 sv14.2.1 ([sv14.2.2] : List Int)).bind fun l236 =>
      ref21_kept_j1 sv14 l229 l236
    else
      ref21_kept_j1 sv14 sv14.1 sv14.2.1)
  else
    some (Sum.inr (sv14.1, sv14.2.1)))
noncomputable def ref21_kept (f1 : Filter) (x5 : (List Int)) (number9 : Int) (from10 : Int) : Option ((List Int) × (List Int)) :=
  (some (max from10 (w64 ((f1.Taps.length : Int) - 1)))).bind fun i13 =>
  (whileM (ref21_kept_l1 f1 x5 number9) (([] : List Int), ([] : List Int), i13)).bind fun e140 =>
  some (e140.1, e140.2)

-- seismonet/seismonetref21.Apply
noncomputable def ref21_Apply (f1 : Filter) (samples5 : (List Int)) (number9 : Int) : Option ((List Int) × Int) :=
  (ref21_Valid f1).bind fun rv12 =>
  (if (!rv12) = true then
    some (([] : List Int), 1)
  else
    (ref21_check samples5 number9 9007199254740992).bind fun rv21 =>
    (if (rv21 != 0) = true then
      some (([] : List Int), rv21)
    else
      (ref21_kept f1 samples5 number9 0).bind fun rv30 =>
      some (rv30.1, 0)))

-- seismonet/seismonetref21.Start
noncomputable def ref21_Start (f1 : Filter) (number5 : Int) : Option (Feed × Int) :=
  (ref21_Valid f1).bind fun rv9 =>
  (if (!rv9) = true then
    some ((⟨(⟨([] : List Int), 0, 0⟩ : Filter), ([] : List Int), 0⟩ : Feed), 1)
  else
    (ref01_In number5 0 9007199254740992).bind fun rv18 =>
    (if (!rv18) = true then
      some ((⟨(⟨([] : List Int), 0, 0⟩ : Filter), ([] : List Int), 0⟩ : Feed), 2)
    else
      (appM 8 ([] : List Int) f1.Taps).bind fun l27 =>
      some ((⟨(⟨l27, f1.Factor, f1.Shift⟩ : Filter), ([] : List Int), number5⟩ : Feed), 0)))

-- seismonet/seismonetref21.Convolve
noncomputable def ref21_Convolve_l6 (a1 : Filter) (b5 : Filter) (sv90 : ((List Int) × Int)) (sv858 : ((List Int) × Int)) : Option (((List Int) × Int) ⊕ (List Int)) :=
  (if (decide (sv858.2 < (b5.Taps.length : Int))) = true then
    (ix sv858.1 (w64 (sv90.2 + sv858.2))).bind fun x1100 =>
    (ix a1.Taps sv90.2).bind fun x1113 =>
    (ix b5.Taps sv858.2).bind fun x1126 =>
    (ix sv858.1 (w64 (sv90.2 + sv858.2))).bind fun x1139 =>
    (setM sv858.1 (w64 (sv90.2 + sv858.2)) (w64 (x1100 + (w64 (x1113 * x1126))))).bind fun l1147 =>
    (some (w64 (sv858.2 + 1))).bind fun k1152 =>
    some (Sum.inl (l1147, k1152))
  else
    some (Sum.inr sv858.1))
noncomputable def ref21_Convolve_l3 (a1 : Filter) (b5 : Filter) (sv90 : ((List Int) × Int)) : Option (((List Int) × Int) ⊕ (List Int)) :=
  (if (decide (sv90.2 < (a1.Taps.length : Int))) = true then
    (whileM (ref21_Convolve_l6 a1 b5 sv90) (sv90.1, 0)).bind fun e1038 =>
    (some (w64 (sv90.2 + 1))).bind fun i1155 =>
    some (Sum.inl (e1038, i1155))
  else
    some (Sum.inr sv90.1))
noncomputable def ref21_Convolve (a1 : Filter) (b5 : Filter) : Option (Filter × Int) :=
  (ref21_Valid a1).bind fun rv44 =>
  ((if (!rv44) = true then
    some true
  else
    (ref21_Valid b5).bind fun rv61 =>
    some (!rv61))).bind fun c58 =>
  (if c58 = true then
    some ((⟨([] : List Int), 0, 0⟩ : Filter), 1)
  else
    (if ((a1.Factor != 1) || (b5.Factor != 1)) = true then
      some ((⟨([] : List Int), 0, 0⟩ : Filter), 10)
    else
      (if ((decide (128 < (w64 ((w64 ((a1.Taps.length : Int) + (b5.Taps.length : Int))) - 1)))) || (decide (30 < (w64 (a1.Shift + b5.Shift))))) = true then
        some ((⟨([] : List Int), 0, 0⟩ : Filter), 8)
      else
        (makeM 8 (0 : Int) (w64 ((w64 ((a1.Taps.length : Int) + (b5.Taps.length : Int))) - 1))).bind fun l85 =>
        (whileM (ref21_Convolve_l3 a1 b5) (l85, 0)).bind fun e666 =>
        some ((⟨e666, 1, (w64 (a1.Shift + b5.Shift))⟩ : Filter), 0))))

-- seismonet/seismonetref21.ValidFeed
noncomputable def ref21_ValidFeed (d1 : Feed) : Option Bool :=
  (ref21_Valid d1.Filter).bind fun rv10 =>
  ((if (rv10 && (decide ((d1.Past.length : Int) < (d1.Filter.Taps.length : Int)))) = true then
    (ref05_InRange d1.Past).bind fun rv28 =>
    some rv28
  else
    some false)).bind fun c25 =>
  ((if c25 = true then
    (ref01_In d1.Number (d1.Past.length : Int) 18014398509481984).bind fun rv45 =>
    some rv45
  else
    some false)).bind fun c42 =>
  some c42

-- seismonet/seismonetref21.Push
noncomputable def ref21_Push (d1 : Feed) (samples8 : (List Int)) : Option (Feed × (List Int) × Int) :=
  (ref21_ValidFeed d1).bind fun rv15 =>
  (if (!rv15) = true then
    some ((⟨(⟨([] : List Int), 0, 0⟩ : Filter), ([] : List Int), 0⟩ : Feed), ([] : List Int), 1)
  else
    (ref21_check samples8 d1.Number 18014398509481984).bind fun rv24 =>
    (if (rv24 != 0) = true then
      some ((⟨(⟨([] : List Int), 0, 0⟩ : Filter), ([] : List Int), 0⟩ : Feed), ([] : List Int), rv24)
    else
      (appM 8 ([] : List Int) d1.Past).bind fun l33 =>
      (appM 8 l33 samples8).bind fun l38 =>
      (ref21_kept d1.Filter l38 (w64 (d1.Number - (d1.Past.length : Int))) (d1.Past.length : Int)).bind fun rv43 =>
      (some (min (l38.length : Int) (w64 ((d1.Filter.Taps.length : Int) - 1)))).bind fun n59 =>
      (subM l38 (w64 ((l38.length : Int) - n59)) (l38.length : Int)).bind fun l65 =>
      (appM 8 ([] : List Int) l65).bind fun l67 =>
      (appM 8 ([] : List Int) d1.Filter.Taps).bind fun l74 =>
      some ((⟨(⟨l74, d1.Filter.Factor, d1.Filter.Shift⟩ : Filter), l67, (w64 (d1.Number + (samples8.length : Int)))⟩ : Feed), rv43.1, 0)))

-- seismonet/seismonetref18.terms
noncomputable def ref18_terms_l2 (l1 : (List Int)) (sv82 : Int) : Option (Int ⊕ Bool) :=
  (if (decide (sv82 < (l1.length : Int))) = true then
    (ix l1 sv82).bind fun x186 =>
    (ref01_In x186 (-1048576) 1048576).bind fun rv198 =>
    (if (!rv198) = true then
      some (Sum.inr false)
    else
      (some (w64 (sv82 + 1))).bind fun i208 =>
      some (Sum.inl i208))
  else
    Option.map Sum.inr (some true))
noncomputable def ref18_terms (l1 : (List Int)) : Option Bool :=
  whileM (ref18_terms_l2 l1) (0)

-- seismonet/seismonetref18.total
noncomputable def ref18_total_l1 (l1 : (List Int)) (sv5 : (Int × Int)) : Option ((Int × Int) ⊕ Int) :=
  (if (decide (sv5.2 < (l1.length : Int))) = true then
    (ix l1 sv5.2).bind fun x86 =>
    (some (w64 (sv5.1 + x86))).bind fun n98 =>
    (some (w64 (sv5.2 + 1))).bind fun i100 =>
    some (Sum.inl (n98, i100))
  else
    some (Sum.inr sv5.1))
noncomputable def ref18_total (l1 : (List Int)) : Option Int :=
  (whileM (ref18_total_l1 l1) (0, 0)).bind fun e65 =>
  some e65

-- seismonet/seismonetref18.ValidStage
noncomputable def ref18_ValidStage (s1 : Stage) : Option Bool :=
  (if (s1.Kind == 0) = true then
    ((if ((((s1.Taps.length : Int) == 0) && (s1.Factor == 0)) && (s1.Shift == 0)) = true then
      (ref01_In s1.Num.e0 1 1048576).bind fun rv362 =>
      some rv362
    else
      some false)).bind fun c359 =>
    ((if c359 = true then
      (ref01_In s1.Den.e0 1 1048576).bind fun rv379 =>
      some rv379
    else
      some false)).bind fun c376 =>
    some ((((c376 && (s1.Num.e1 == 0)) && (s1.Num.e2 == 0)) && (s1.Den.e1 == 0)) && (s1.Den.e2 == 0))
  else
    (if (s1.Kind == 1) = true then
      ((if ((((s1.Taps.length : Int) == 0) && (s1.Factor == 0)) && (s1.Shift == 0)) = true then
        (ref18_terms ([s1.Num.e0, s1.Num.e1, s1.Num.e2] : List Int)).bind fun rv535 =>
        some rv535
      else
        some false)).bind fun c531 =>
      ((if c531 = true then
        (ref18_terms ([s1.Den.e0, s1.Den.e1, s1.Den.e2] : List Int)).bind fun rv553 =>
        some rv553
      else
        some false)).bind fun c550 =>
      some (c550 && (s1.Den.e0 != 0))
    else
      (if (s1.Kind == 2) = true then
        ((if (((s1.Num.e0 == 0) && ((s1.Num.e1 == 0) && ((s1.Num.e2 == 0) && true))) && ((s1.Den.e0 == 0) && ((s1.Den.e1 == 0) && ((s1.Den.e2 == 0) && true)))) = true then
          (ref01_In (s1.Taps.length : Int) 1 128).bind fun rv662 =>
          some rv662
        else
          some false)).bind fun c659 =>
        ((if c659 = true then
          (ref18_terms s1.Taps).bind fun rv679 =>
          some rv679
        else
          some false)).bind fun c676 =>
        ((if c676 = true then
          (ref18_total s1.Taps).bind fun rv696 =>
          some (rv696 != 0)
        else
          some false)).bind fun c693 =>
        ((if c693 = true then
          (ref01_In s1.Factor 1 64).bind fun rv713 =>
          some rv713
        else
          some false)).bind fun c710 =>
        ((if c710 = true then
          (ref01_In s1.Shift 0 40).bind fun rv730 =>
          some rv730
        else
          some false)).bind fun c727 =>
        some c727
      else
        some false)))

-- seismonet/seismonetref21.Stage
noncomputable def ref21_Stage (s1 : Stage) : Option (Filter × Int) :=
  (ref18_ValidStage s1).bind fun rv8 =>
  (if ((!rv8) || (s1.Kind != 2)) = true then
    some ((⟨([] : List Int), 0, 0⟩ : Filter), 1)
  else
    (appM 8 ([] : List Int) s1.Taps).bind fun l18 =>
    (ref21_Valid (⟨l18, s1.Factor, s1.Shift⟩ : Filter)).bind fun rv25 =>
    (if (!rv25) = true then
      some ((⟨([] : List Int), 0, 0⟩ : Filter), 8)
    else
      some ((⟨l18, s1.Factor, s1.Shift⟩ : Filter), 0)))

-- seismonet/seismonetlaw21.FilterExact
noncomputable def law21_FilterExact_l41 (samples9 : (List Int)) (rv98 : ((List Int) × Dice)) (x5763 : Filter) (sv6530 : Int) (x7500 : Int) (l7515 : (List Int)) (sv7689 : Int) : Option (Int ⊕ (Int ⊕ (((List Int) × Int × Int) ⊕ Bool))) :=
  (if (decide (sv7689 < (([rv98.1, samples9, l7515] : List (List Int)).length : Int))) = true then
    (ix ([rv98.1, samples9, l7515] : List (List Int)) sv7689).bind fun x7915 =>
    (filter_Apply x5763 x7915 x7500).bind fun rv7927 =>
    (ref21_Apply x5763 x7915 x7500).bind fun rv7938 =>
    ((if (rv7927.2 != rv7938.2) = true then
      some true
    else
      (ref05_Same rv7927.1 rv7938.1).bind fun rv7959 =>
      some (!rv7959))).bind fun c7956 =>
    (if c7956 = true then
      some (Sum.inr (Sum.inr (Sum.inr false)))
    else
      some (Sum.inl (w64 (sv7689 + 1))))
  else
    Option.map Sum.inr ((filter_Start x5763 x7500).bind fun rv7971 =>
    (ref21_Start x5763 x7500).bind fun rv7986 =>
    ((if (rv7971.2 != rv7986.2) = true then
      some true
    else
      (ref21_SameFeed rv7971.1 rv7986.1).bind fun rv8011 =>
      some (!rv8011))).bind fun c8008 =>
    (if c8008 = true then
      some (Sum.inr (Sum.inr false))
    else
      some (Sum.inl (w64 (sv6530 + 1))))))
noncomputable def law21_FilterExact_l37 (samples9 : (List Int)) (number13 : Int) (rv82 : (Filter × Dice)) (rv98 : ((List Int) × Dice)) (sv2544 : ((List Int) × Int × Int)) (x5763 : Filter) (rv5794 : (Int × Dice)) (sv6530 : Int) : Option (Int ⊕ (((List Int) × Int × Int) ⊕ Bool)) :=
  (if (decide (sv6530 < (([number13, rv5794.1, 9007199254740992, 9007199254740993, (-1)] : List Int).length : Int))) = true then
    (ix ([number13, rv5794.1, 9007199254740992, 9007199254740993, (-1)] : List Int) sv6530).bind fun x7500 =>
    (appM 8 ([] : List Int) rv98.1).bind fun l7508 =>
    (appM 8 l7508 ([1073741824] : List Int)).bind fun l7515 =>
    whileM (law21_FilterExact_l41 samples9 rv98 x5763 sv6530 x7500 l7515) (0)
  else
    Option.map Sum.inr ((filter_Convolve x5763 rv82.1).bind fun rv8024 =>
    (ref21_Convolve x5763 rv82.1).bind fun rv8036 =>
    ((if (rv8024.2 != rv8036.2) = true then
      some true
    else
      (ref21_Same rv8024.1 rv8036.1).bind fun rv8058 =>
      some (!rv8058))).bind fun c8055 =>
    (if c8055 = true then
      some (Sum.inr false)
    else
      some (Sum.inl (rv5794.2.L, rv5794.2.At, (w64 (sv2544.2.2 + 1)))))))
noncomputable def law21_FilterExact_l52 (samples9 : (List Int)) (rv98 : ((List Int) × Dice)) (sv8853 : Int) (x9759 : Feed) (sv9980 : Int) : Option (Int ⊕ (Int ⊕ Bool)) :=
  (if (decide (sv9980 < (([rv98.1, samples9, ([] : List Int)] : List (List Int)).length : Int))) = true then
    (ix ([rv98.1, samples9, ([] : List Int)] : List (List Int)) sv9980).bind fun x10254 =>
    (filter_Push x9759 x10254).bind fun rv10266 =>
    (ref21_Push x9759 x10254).bind fun rv10285 =>
    (if (rv10266.2.2 != rv10285.2.2) = true then
      some true
    else
      (ref05_Same rv10266.2.1 rv10285.2.1).bind fun rv10305 =>
      some (!rv10305)).bind fun c10306 =>
    (if c10306 = true then
      some true
    else
      (ref21_SameFeed rv10266.1 rv10285.1).bind fun rv10308 =>
      some (!rv10308)).bind fun c10309 =>
    (if c10309 = true then
      some true
    else
      (filter_ValidFeed x9759).bind fun rv10311 =>
      (ref21_ValidFeed x9759).bind fun rv10313 =>
      some (!(rv10311 == rv10313))).bind fun c10314 =>
    (if c10314 = true then
      some (Sum.inr (Sum.inr false))
    else
      some (Sum.inl (w64 (sv9980 + 1))))
  else
    Option.map Sum.inr (some (Sum.inl (w64 (sv8853 + 1)))))
noncomputable def law21_FilterExact_l54 (stage21 : Stage) (rv10446 : (Stage × Dice)) (sv10639 : Int) : Option (Int ⊕ Bool) :=
  (if (decide (sv10639 < (([rv10446.1, stage21] : List Stage).length : Int))) = true then
    (ix ([rv10446.1, stage21] : List Stage) sv10639).bind fun x10877 =>
    (filter_Stage x10877).bind fun rv10890 =>
    (ref21_Stage x10877).bind fun rv10902 =>
    ((if (rv10890.2 != rv10902.2) = true then
      some true
    else
      (ref21_Same rv10890.1 rv10902.1).bind fun rv10924 =>
      some (!rv10924))).bind fun c10921 =>
    (if c10921 = true then
      some (Sum.inr false)
    else
      some (Sum.inl (w64 (sv10639 + 1))))
  else
    Option.map Sum.inr ((law21_sane).bind fun rv10934 =>
    some rv10934))
noncomputable def law21_FilterExact_l48 (samples9 : (List Int)) (feed14 : Feed) (stage21 : Stage) (rv98 : ((List Int) × Dice)) (rv8120 : (Feed × (List Int) × Int)) (rv8162 : (Int × Dice)) (sv8853 : Int) : Option (Int ⊕ Bool) :=
  (if (decide (sv8853 < (([rv8120.1, (⟨rv8120.1.Filter, rv8120.1.Past, rv8162.1⟩ : Feed), feed14] : List Feed).length : Int))) = true then
    (ix ([rv8120.1, (⟨rv8120.1.Filter, rv8120.1.Past, rv8162.1⟩ : Feed), feed14] : List Feed) sv8853).bind fun x9759 =>
    whileM (law21_FilterExact_l52 samples9 rv98 sv8853 x9759) (0)
  else
    Option.map Sum.inr ((made_Dice_Stage rv8162.2).bind fun rv10446 =>
    whileM (law21_FilterExact_l54 stage21 rv10446) (0)))
noncomputable def law21_FilterExact_l22 (raw5 : Filter) (samples9 : (List Int)) (number13 : Int) (feed14 : Feed) (stage21 : Stage) (rv68 : (Filter × Dice)) (rv82 : (Filter × Dice)) (rv98 : ((List Int) × Dice)) (rv112 : (Filter × Dice)) (sv2544 : ((List Int) × Int × Int)) : Option (((List Int) × Int × Int) ⊕ Bool) :=
  (if (decide (sv2544.2.2 < (([rv68.1, rv112.1, raw5] : List Filter).length : Int))) = true then
    (ix ([rv68.1, rv112.1, raw5] : List Filter) sv2544.2.2).bind fun x5763 =>
    (filter_Valid x5763).bind fun rv5776 =>
    (ref21_Valid x5763).bind fun rv5778 =>
    (if (!(rv5776 == rv5778)) = true then
      some (Sum.inr false)
    else
      (made_Dice_Next (⟨sv2544.1, sv2544.2.1⟩ : Dice) 9).bind fun rv5794 =>
      whileM (law21_FilterExact_l37 samples9 number13 rv82 rv98 sv2544 x5763 rv5794) (0))
  else
    Option.map Sum.inr ((made_Dice_Next (⟨sv2544.1, sv2544.2.1⟩ : Dice) 9).bind fun rv8070 =>
    (ref21_Start rv68.1 rv8070.1).bind fun rv8075 =>
    (made_Dice_Samples rv8070.2 6).bind fun rv8111 =>
    (ref21_Push rv8075.1 rv8111.1).bind fun rv8120 =>
    (made_Dice_Pick rv8111.2 ([0, (-1), 18014398509481984, 18014398509481985] : List Int)).bind fun rv8162 =>
    whileM (law21_FilterExact_l48 samples9 feed14 stage21 rv98 rv8120 rv8162) (0)))
noncomputable def law21_FilterExact (t1 : (List Int)) (raw5 : Filter) (samples9 : (List Int)) (number13 : Int) (feed14 : Feed) (stage21 : Stage) : Option Bool :=
  (made_Light t1).bind fun rv29 =>
  (if ((((((!rv29) || (decide (150 < (raw5.Taps.length : Int)))) || (decide (80 < (samples9.length : Int)))) || (decide (150 < (feed14.Past.length : Int)))) || (decide (150 < (feed14.Filter.Taps.length : Int)))) || (decide (150 < (stage21.Taps.length : Int)))) = true then
    (law21_sane).bind fun rv50 =>
    some rv50
  else
    (made_Roll t1).bind fun rv57 =>
    (made_Dice_Filter rv57).bind fun rv68 =>
    (made_Dice_Filter rv68.2).bind fun rv82 =>
    (made_Dice_Samples rv82.2 20).bind fun rv98 =>
    (law21_odd rv98.2 rv68.1).bind fun rv112 =>
    whileM (law21_FilterExact_l22 raw5 samples9 number13 feed14 stage21 rv68 rv82 rv98 rv112) (rv112.2.L, rv112.2.At, 0))

end Go.Proofs.Ytmihimhknllmcaa.Sh

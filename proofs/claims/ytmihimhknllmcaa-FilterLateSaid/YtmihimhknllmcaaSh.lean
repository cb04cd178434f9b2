/- Each Go function as a plain program over lists and numbers (none: a panic, or no end). Printed by a program of ours out of the translation. -/
import Derived.Test.YtmihimhknllmcaaShData
namespace Go.Proofs.Ytmihimhknllmcaa.Sh
open Go
set_option linter.unusedVariables false

-- seismonet/seismonetmade.Light
noncomputable def made_Light (l1 : (List Int)) : Option Bool :=
  some (decide ((l1.length : Int) ≤ 500))

-- seismonet/filter.in
noncomputable def filter_in (n1 : Int) (low2 : Int) (high3 : Int) : Option Bool :=
  some ((decide (low2 ≤ n1)) && (decide (n1 ≤ high3)))

-- seismonet/filter.Valid
noncomputable def filter_Valid_l2 (f1 : Filter) (sv181 : (Int × Int)) : Option ((Int × Int) ⊕ Bool) :=
  (if (decide (sv181.2 < (f1.Taps.length : Int))) = true then
    (ix f1.Taps sv181.2).bind fun x345 =>
    (filter_in x345 (-1073741824) 1073741824).bind fun rv355 =>
    (if (!rv355) = true then
      some (Sum.inr false)
    else
      (some (w64 (sv181.1 + (max x345 (w64 (0 - x345)))))).bind fun sum364 =>
      some (Sum.inl (sum364, (w64 (sv181.2 + 1)))))
  else
    Option.map Sum.inr ((shlM .i64 1 f1.Shift).bind fun shl366 =>
    some (decide (sv181.1 ≤ shl366))))
noncomputable def filter_Valid (f1 : Filter) : Option Bool :=
  (filter_in (f1.Taps.length : Int) 1 128).bind fun rv7 =>
  ((if (!rv7) = true then
    some true
  else
    (filter_in f1.Shift 0 30).bind fun rv22 =>
    some (!rv22))).bind fun c19 =>
  ((if c19 = true then
    some true
  else
    (filter_in f1.Factor 1 64).bind fun rv37 =>
    some (!rv37))).bind fun c34 =>
  (if c34 = true then
    some false
  else
    whileM (filter_Valid_l2 f1) (0, 0))

-- slices.IndexFunc[[]int,int]
noncomputable def slices_IndexFunc_Lint_int_l2 (s1 : (List Int)) (f5 : Int → Option Bool) (sv135 : Int) : Option (Int ⊕ Int) :=
  (if (decide (sv135 < (s1.length : Int))) = true then
    (ix s1 sv135).bind fun x285 =>
    (f5 x285).bind fun rv295 =>
    (if rv295 = true then
      some (Sum.inr sv135)
    else
      some (Sum.inl (w64 (sv135 + 1))))
  else
    Option.map Sum.inr (some (-1)))
noncomputable def slices_IndexFunc_Lint_int (s1 : (List Int)) (f5 : Int → Option Bool) : Option Int :=
  whileM (slices_IndexFunc_Lint_int_l2 s1 f5) (0)

-- slices.ContainsFunc[[]int,int]
noncomputable def slices_ContainsFunc_Lint_int (s1 : (List Int)) (f5 : Int → Option Bool) : Option Bool :=
  (slices_IndexFunc_Lint_int s1 f5).bind fun rv11 =>
  some (decide (0 ≤ rv11))

-- seismonet/filter.wrong
noncomputable def filter_wrong (n1 : Int) : Option Bool :=
  (filter_in n1 (-1073741823) 1073741823).bind fun rv3 =>
  some (!rv3)

-- seismonet/filter.check
noncomputable def filter_check (samples1 : (List Int)) (number5 : Int) (most6 : Int) : Option Int :=
  (filter_in number5 0 most6).bind fun rv8 =>
  ((if (!rv8) = true then
    some true
  else
    (slices_ContainsFunc_Lint_int samples1 filter_wrong).bind fun rv23 =>
    some rv23)).bind fun c20 =>
  (if c20 = true then
    some 2
  else
    (if (decide (65536 < (samples1.length : Int))) = true then
      some 8
    else
      some 0))

-- seismonet/filter.output
noncomputable def filter_output_l1 (f1 : Filter) (samples5 : (List Int)) (i9 : Int) (sv11 : (Int × Int)) : Option ((Int × Int) ⊕ Int) :=
  (if (decide (sv11.2 < (f1.Taps.length : Int))) = true then
    (ix f1.Taps sv11.2).bind fun x197 =>
    (ix samples5 (w64 (i9 - sv11.2))).bind fun x208 =>
    (some (w64 (sv11.1 + (w64 (x197 * x208))))).bind fun sum218 =>
    some (Sum.inl (sum218, (w64 (sv11.2 + 1))))
  else
    some (Sum.inr sv11.1))
noncomputable def filter_output (f1 : Filter) (samples5 : (List Int)) (i9 : Int) : Option Int :=
  (whileM (filter_output_l1 f1 samples5 i9) (0, 0)).bind fun e167 =>
  (shrM .i64 e167 f1.Shift).bind fun shr221 =>
  some shr221

-- seismonet/filter.outputs
noncomputable def filter_outputs_j1 (sv14 : ((List Int) × Int)) (out310 : (List Int)) : Option (((List Int) × Int) ⊕ (List Int)) :=
  (some (w64 (sv14.2 + 1))).bind fun i312 =>
  some (Sum.inl (out310, i312))
noncomputable def filter_outputs_l1 (f1 : Filter) (samples5 : (List Int)) (number9 : Int) (sv14 : ((List Int) × Int)) : Option (((List Int) × Int) ⊕ (List Int)) :=
  (if (decide (sv14.2 < (samples5.length : Int))) = true then
    (remM (w64 (number9 + sv14.2)) f1.Factor).bind fun rem291 =>
    (if (rem291 == 0) = true then
      (filter_output f1 samples5 sv14.2).bind fun rv315 =>
      (appM 8 sv14.1 ([rv315] : List Int)).bind fun l323 =>
      filter_outputs_j1 sv14 l323
    else
      filter_outputs_j1 sv14 sv14.1)
  else
    some (Sum.inr sv14.1))
noncomputable def filter_outputs (f1 : Filter) (samples5 : (List Int)) (number9 : Int) (from10 : Int) : Option (List Int) :=
  (some (max from10 (w64 ((f1.Taps.length : Int) - 1)))).bind fun i13 =>
  (whileM (filter_outputs_l1 f1 samples5 number9) (([] : List Int), i13)).bind fun e248 =>
  some e248

-- seismonet/filter.Apply
noncomputable def filter_Apply (f1 : Filter) (samples5 : (List Int)) (number9 : Int) : Option ((List Int) × Int) :=
  (filter_Valid f1).bind fun rv12 =>
  (if (!rv12) = true then
    some (([] : List Int), 1)
  else
    (filter_check samples5 number9 9007199254740992).bind fun rv20 =>
    (if (rv20 != 0) = true then
      some (([] : List Int), rv20)
    else
      (filter_outputs f1 samples5 number9 0).bind fun rv28 =>
      some (rv28, 0)))

-- seismonet/seismonetref05.Same
noncomputable def ref05_Same_l2 (a1 : (List Int)) (b5 : (List Int)) (sv178 : Int) : Option (Int ⊕ Bool) :=
  (if (decide (sv178 < (a1.length : Int))) = true then
    (ix a1 sv178).bind fun x376 =>
    (ix b5 sv178).bind fun x387 =>
    (if (x376 != x387) = true then
      some (Sum.inr false)
    else
      (some (w64 (sv178 + 1))).bind fun i401 =>
      some (Sum.inl i401))
  else
    Option.map Sum.inr (some true))
noncomputable def ref05_Same (a1 : (List Int)) (b5 : (List Int)) : Option Bool :=
  (if ((a1.length : Int) != (b5.length : Int)) = true then
    some false
  else
    whileM (ref05_Same_l2 a1 b5) (0))

-- seismonet/seismonetlaw21.sane
noncomputable def law21_sane : Option Bool :=
  (filter_Apply (⟨([1, 1] : List Int), 1, 1⟩ : Filter) ([4, 6, 9] : List Int) 0).bind fun rv7 =>
  (filter_Apply (⟨([1, 1] : List Int), 2, 1⟩ : Filter) ([4, 6, 9] : List Int) 10).bind fun rv22 =>
  ((if ((rv7.2 == 0) && (rv22.2 == 0)) = true then
    (ref05_Same rv7.1 ([5, 7] : List Int)).bind fun rv50 =>
    some rv50
  else
    some false)).bind fun c45 =>
  ((if c45 = true then
    (ref05_Same rv22.1 ([7] : List Int)).bind fun rv73 =>
    some rv73
  else
    some false)).bind fun c68 =>
  ((if c68 = true then
    (filter_Valid (⟨([1, 1] : List Int), 2, 1⟩ : Filter)).bind fun rv90 =>
    some rv90
  else
    some false)).bind fun c87 =>
  some c87

-- seismonet/seismonetmade.Roll
noncomputable def made_Roll (l1 : (List Int)) : Option Dice :=
  some (⟨l1, 0⟩ : Dice)

-- (*seismonet/seismonetmade.Dice).Next
noncomputable def made_Dice_Next_j1 (d1 : Dice) (x33 : Int) : Option (Int × Dice) :=
  some (x33, (⟨d1.L, (w64 (d1.At + 1))⟩ : Dice))
noncomputable def made_Dice_Next (d1 : Dice) (n8 : Int) : Option (Int × Dice) :=
  (if ((decide ((d1.L.length : Int) ≤ d1.At)) || (decide (n8 < 1))) = true then
    some (0, d1)
  else
    (ix d1.L d1.At).bind fun x17 =>
    (remM x17 n8).bind fun rem27 =>
    (if (decide (rem27 < 0)) = true then
      (some (w64 (rem27 + n8))).bind fun x36 =>
      made_Dice_Next_j1 d1 x36
    else
      made_Dice_Next_j1 d1 rem27))

-- (*seismonet/seismonetmade.Dice).Pick
noncomputable def made_Dice_Pick (d1 : Dice) (l8 : (List Int)) : Option (Int × Dice) :=
  (made_Dice_Next d1 (l8.length : Int)).bind fun rv13 =>
  (ix l8 rv13.1).bind fun x24 =>
  some (x24, rv13.2)

-- (*seismonet/seismonetmade.Dice).Filter
noncomputable def made_Dice_Filter_l1 (sv50 : ((List Int) × Int × (List Int) × Int × Int)) : Option (((List Int) × Int × (List Int) × Int × Int) ⊕ ((List Int) × Int × (List Int))) :=
  (if (decide (0 < sv50.2.2.2.2)) = true then
    (made_Dice_Next (⟨sv50.1, sv50.2.1⟩ : Dice) (w64 ((w64 (2 * sv50.2.2.2.1)) + 1))).bind fun rv235 =>
    (some (w64 (rv235.1 - sv50.2.2.2.1))).bind fun x245 =>
    (some (w64 (sv50.2.2.2.1 - (max x245 (w64 (0 - x245)))))).bind fun left247 =>
    (appM 8 sv50.2.2.1 ([x245] : List Int)).bind fun l251 =>
    (some (w64 (sv50.2.2.2.2 - 1))).bind fun i256 =>
    some (Sum.inl (rv235.2.L, rv235.2.At, l251, left247, i256))
  else
    some (Sum.inr (sv50.1, sv50.2.1, sv50.2.2.1)))
noncomputable def made_Dice_Filter (d1 : Dice) : Option (Filter × Dice) :=
  (made_Dice_Pick d1 ([1, 1, 2, 3] : List Int)).bind fun rv12 =>
  (made_Dice_Pick rv12.2 ([0, 2, 4, 6] : List Int)).bind fun rv25 =>
  (shlM .i64 1 (IntKind.u64.wrap rv25.1)).bind fun shl37 =>
  (made_Dice_Next rv25.2 5).bind fun rv39 =>
  (some (w64 (1 + rv39.1))).bind fun i49 =>
  (whileM (made_Dice_Filter_l1) (rv39.2.L, rv39.2.At, ([] : List Int), shl37, i49)).bind fun e204 =>
  some ((⟨e204.2.2, rv12.1, rv25.1⟩ : Filter), (⟨e204.1, e204.2.1⟩ : Dice))

-- seismonet/seismonetlaw21.FilterImpulse
noncomputable def law21_FilterImpulse_j1 (sv368 : Int) (x686 : Int) (want711 : Int) : Option (Int ⊕ Bool) :=
  (if (x686 != want711) = true then
    some (Sum.inr false)
  else
    some (Sum.inl (w64 (sv368 + 1))))
noncomputable def law21_FilterImpulse_l3 (rv38 : (Filter × Dice)) (sv728 : (Int × Int)) : Option ((Int × Int) ⊕ Int) :=
  (if (decide (sv728.2 < (rv38.1.Taps.length : Int))) = true then
    (ix rv38.1.Taps sv728.2).bind fun x837 =>
    (some (w64 (sv728.1 + x837))).bind fun sum847 =>
    some (Sum.inl (sum847, (w64 (sv728.2 + 1))))
  else
    some (Sum.inr sv728.1))
noncomputable def law21_FilterImpulse_l4 (n5 : Int) (rv38 : (Filter × Dice)) (l850 : (List Int)) (sv853 : ((List Int) × Int)) : Option (((List Int) × Int) ⊕ (List Int)) :=
  (if (decide (sv853.2 < (l850.length : Int))) = true then
    (shlM .i64 (w64 n5) (IntKind.u64.wrap rv38.1.Shift)).bind fun shl998 =>
    (ix sv853.1 sv853.2).bind fun x1001 =>
    (setM sv853.1 sv853.2 shl998).bind fun l1011 =>
    some (Sum.inl (l1011, (w64 (sv853.2 + 1))))
  else
    some (Sum.inr sv853.1))
noncomputable def law21_FilterImpulse_l6 (n5 : Int) (e818 : Int) (rv1016 : ((List Int) × Int)) (sv1116 : Int) : Option (Int ⊕ Bool) :=
  (if (decide (sv1116 < (rv1016.1.length : Int))) = true then
    (ix rv1016.1 sv1116).bind fun x1224 =>
    (if (x1224 != (w64 (e818 * (w64 n5)))) = true then
      some (Sum.inr false)
    else
      some (Sum.inl (w64 (sv1116 + 1))))
  else
    Option.map Sum.inr (((if ((rv1016.2 == 0) && ((rv1016.1.length : Int) == 4)) = true then
      (law21_sane).bind fun rv1247 =>
      some rv1247
    else
      some false)).bind fun c1244 =>
    some c1244))
noncomputable def law21_FilterImpulse_l2 (n5 : Int) (rv38 : (Filter × Dice)) (k54 : Int) (rv80 : ((List Int) × Int)) (atv98 : Int) (sv368 : Int) : Option (Int ⊕ Bool) :=
  (if (decide (sv368 < (rv80.1.length : Int))) = true then
    (ix rv80.1 sv368).bind fun x686 =>
    (some (w64 ((w64 ((w64 (k54 - 1)) + sv368)) - atv98))).bind fun j696 =>
    (if ((decide (0 ≤ j696)) && (decide (j696 < k54))) = true then
      (ix rv38.1.Taps j696).bind fun x718 =>
      law21_FilterImpulse_j1 sv368 x686 x718
    else
      law21_FilterImpulse_j1 sv368 x686 0)
  else
    Option.map Sum.inr ((whileM (law21_FilterImpulse_l3 rv38) (0, 0)).bind fun e818 =>
    (makeM 8 (0 : Int) (w64 (k54 + 3))).bind fun l850 =>
    (whileM (law21_FilterImpulse_l4 n5 rv38 l850) (l850, 0)).bind fun e973 =>
    (filter_Apply (⟨rv38.1.Taps, 1, rv38.1.Shift⟩ : Filter) e973 0).bind fun rv1016 =>
    whileM (law21_FilterImpulse_l6 n5 e818 rv1016) (0)))
noncomputable def law21_FilterImpulse (t1 : (List Int)) (n5 : Int) : Option Bool :=
  (made_Light t1).bind fun rv7 =>
  (if (!rv7) = true then
    (law21_sane).bind fun rv21 =>
    some rv21
  else
    (made_Roll t1).bind fun rv27 =>
    (made_Dice_Filter rv27).bind fun rv38 =>
    (some (rv38.1.Taps.length : Int)).bind fun k54 =>
    (makeM 8 (0 : Int) (w64 (3 * k54))).bind fun l56 =>
    (remM (w64 n5) k54).bind fun rem60 =>
    (shlM .i64 1 (IntKind.u64.wrap rv38.1.Shift)).bind fun shl62 =>
    (ix l56 (w64 ((w64 ((w64 (2 * k54)) - 1)) - rem60))).bind fun x65 =>
    (setM l56 (w64 ((w64 ((w64 (2 * k54)) - 1)) - rem60)) shl62).bind fun l75 =>
    (filter_Apply (⟨rv38.1.Taps, 1, rv38.1.Shift⟩ : Filter) l75 0).bind fun rv80 =>
    (if ((rv80.2 != 0) || ((rv80.1.length : Int) != (w64 ((w64 (2 * k54)) + 1)))) = true then
      some false
    else
      (remM (w64 n5) k54).bind fun rem96 =>
      (some (w64 ((w64 ((w64 (2 * k54)) - 1)) - rem96))).bind fun atv98 =>
      whileM (law21_FilterImpulse_l2 n5 rv38 k54 rv80 atv98) (0)))

-- (*seismonet/seismonetmade.Dice).Samples
noncomputable def made_Dice_Samples_j1 (sv34 : ((List Int) × Int × (List Int) × Int × Int)) (x5577 : (List Int)) (x5578 : Int) (x5579 : Int) : Option (((List Int) × Int × (List Int) × Int × Int) ⊕ ((List Int) × Int × (List Int))) :=
  (some (min (max x5579 (-1073741823)) 1073741823)).bind fun x5581 =>
  (appM 8 sv34.2.2.1 ([x5581] : List Int)).bind fun l5585 =>
  (some (w64 (sv34.2.2.2.2 - 1))).bind fun i5590 =>
  some (Sum.inl (x5577, x5578, l5585, x5581, i5590))
noncomputable def made_Dice_Samples_j2 (sv34 : ((List Int) × Int × (List Int) × Int × Int)) (x5684 : (List Int)) (x5685 : Int) (x5686 : Int) : Option (((List Int) × Int × (List Int) × Int × Int) ⊕ ((List Int) × Int × (List Int))) :=
  made_Dice_Samples_j1 sv34 x5684 x5685 x5686
noncomputable def made_Dice_Samples_j3 (sv34 : ((List Int) × Int × (List Int) × Int × Int)) (x5732 : (List Int)) (x5733 : Int) (x5734 : Int) : Option (((List Int) × Int × (List Int) × Int × Int) ⊕ ((List Int) × Int × (List Int))) :=
  made_Dice_Samples_j2 sv34 x5732 x5733 x5734
noncomputable def made_Dice_Samples_l1 (sv34 : ((List Int) × Int × (List Int) × Int × Int)) : Option (((List Int) × Int × (List Int) × Int × Int) ⊕ ((List Int) × Int × (List Int))) :=
  (if (decide (0 < sv34.2.2.2.2)) = true then
    (made_Dice_Next (⟨sv34.1, sv34.2.1⟩ : Dice) 10).bind fun rv5049 =>
    (if (rv5049.1 == 0) = true then
      (made_Dice_Pick rv5049.2 ([127, 128, (-128), (-129), 300] : List Int)).bind fun rv5595 =>
      (some (w64 (sv34.2.2.2.1 + rv5595.1))).bind fun x5606 =>
      made_Dice_Samples_j1 sv34 rv5595.2.L rv5595.2.At x5606
    else
      (if (rv5049.1 == 1) = true then
        (made_Dice_Pick rv5049.2 ([32767, 32768, (-32768), (-32769)] : List Int)).bind fun rv5691 =>
        (some (w64 (sv34.2.2.2.1 + rv5691.1))).bind fun x5702 =>
        made_Dice_Samples_j2 sv34 rv5691.2.L rv5691.2.At x5702
      else
        (if (rv5049.1 == 2) = true then
          (made_Dice_Pick rv5049.2 ([0, 1073741823, (-1073741823), 536870912] : List Int)).bind fun rv5739 =>
          made_Dice_Samples_j3 sv34 rv5739.2.L rv5739.2.At rv5739.1
        else
          (made_Dice_Next rv5049.2 9).bind fun rv5750 =>
          (some (w64 (sv34.2.2.2.1 + (w64 (rv5750.1 - 4))))).bind fun x5760 =>
          made_Dice_Samples_j3 sv34 rv5750.2.L rv5750.2.At x5760)))
  else
    some (Sum.inr (sv34.1, sv34.2.1, sv34.2.2.1)))
noncomputable def made_Dice_Samples (d1 : Dice) (n8 : Int) : Option ((List Int) × Dice) :=
  (made_Dice_Pick d1 ([0, 5, (-100), 1000] : List Int)).bind fun rv12 =>
  (made_Dice_Next rv12.2 n8).bind fun rv23 =>
  (some (w64 (1 + rv23.1))).bind fun i33 =>
  (whileM (made_Dice_Samples_l1) (rv23.2.L, rv23.2.At, ([] : List Int), rv12.1, i33)).bind fun e4328 =>
  some (e4328.2.2, (⟨e4328.1, e4328.2.1⟩ : Dice))

-- seismonet/seismonetref01.In
noncomputable def ref01_In (n1 : Int) (lo2 : Int) (hi3 : Int) : Option Bool :=
  some ((decide (lo2 ≤ n1)) && (decide (n1 ≤ hi3)))

-- seismonet/seismonetref05.Sample
noncomputable def ref05_Sample (n1 : Int) : Option Bool :=
  (ref01_In n1 (-1073741823) 1073741823).bind fun rv3 =>
  some rv3

-- seismonet/seismonetref05.InRange
noncomputable def ref05_InRange_l2 (l1 : (List Int)) (sv136 : Int) : Option (Int ⊕ Bool) :=
  (if (decide (sv136 < (l1.length : Int))) = true then
    (ix l1 sv136).bind fun x292 =>
    (ref05_Sample x292).bind fun rv302 =>
    (if (!rv302) = true then
      some (Sum.inr false)
    else
      (some (w64 (sv136 + 1))).bind fun i311 =>
      some (Sum.inl i311))
  else
    Option.map Sum.inr (some true))
noncomputable def ref05_InRange (l1 : (List Int)) : Option Bool :=
  whileM (ref05_InRange_l2 l1) (0)

-- seismonet/seismonetlaw21.FilterLinear
noncomputable def law21_FilterLinear_l1 (by6 : Int) (rv39 : (Filter × Dice)) (sv54 : ((List Int) × Int × (List Int) × (List Int) × (List Int) × Int)) : Option (((List Int) × Int × (List Int) × (List Int) × (List Int) × Int) ⊕ ((List Int) × Int × (List Int) × (List Int) × (List Int))) :=
  (if (decide (sv54.2.2.2.2.2 < 14)) = true then
    (made_Dice_Next (⟨sv54.1, sv54.2.1⟩ : Dice) 9).bind fun rv376 =>
    (shlM .i64 (w64 (rv376.1 - 4)) (IntKind.u64.wrap rv39.1.Shift)).bind fun shl382 =>
    (made_Dice_Next rv376.2 9).bind fun rv384 =>
    (shlM .i64 (w64 (rv384.1 - 4)) (IntKind.u64.wrap rv39.1.Shift)).bind fun shl390 =>
    (appM 8 sv54.2.2.1 ([shl382] : List Int)).bind fun l403 =>
    (appM 8 sv54.2.2.2.1 ([shl390] : List Int)).bind fun l410 =>
    (appM 8 sv54.2.2.2.2.1 ([(w64 (shl382 + (w64 ((w64 by6) * shl390))))] : List Int)).bind fun l417 =>
    (some (w64 (sv54.2.2.2.2.2 + 1))).bind fun i422 =>
    some (Sum.inl (rv384.2.L, rv384.2.At, l403, l410, l417, i422))
  else
    some (Sum.inr (sv54.1, sv54.2.1, sv54.2.2.1, sv54.2.2.2.1, sv54.2.2.2.2.1)))
noncomputable def law21_FilterLinear_j2 (sv1826 : (Int × Int)) (j2307 : Int) : Option ((Int × Int) ⊕ Bool) :=
  some (Sum.inl (j2307, (w64 (sv1826.2 + 1))))
noncomputable def law21_FilterLinear_l5 (n5 : Int) (rv39 : (Filter × Dice)) (rv1390 : ((List Int) × Int)) (rv1402 : (Int × Dice)) (rv1412 : ((List Int) × Int)) (sv1826 : (Int × Int)) : Option ((Int × Int) ⊕ Bool) :=
  (if (decide (sv1826.2 < (rv1390.1.length : Int))) = true then
    (remM (w64 ((w64 ((w64 ((w64 n5) + (rv39.1.Taps.length : Int))) - 1)) + sv1826.2)) (w64 (1 + rv1402.1))).bind fun rem2276 =>
    (if (rem2276 == 0) = true then
      (if (decide ((rv1412.1.length : Int) ≤ sv1826.1)) = true then
        some true
      else
        (ix rv1412.1 sv1826.1).bind fun x2311 =>
        (ix rv1390.1 sv1826.2).bind fun x2322 =>
        some (x2311 != x2322)).bind fun c2331 =>
      (if c2331 = true then
        some (Sum.inr false)
      else
        (some (w64 (sv1826.1 + 1))).bind fun j2362 =>
        law21_FilterLinear_j2 sv1826 j2362)
    else
      law21_FilterLinear_j2 sv1826 sv1826.1)
  else
    Option.map Sum.inr (((if (sv1826.1 == (rv1412.1.length : Int)) = true then
      (law21_sane).bind fun rv2373 =>
      some rv2373
    else
      some false)).bind fun c2370 =>
    some c2370))
noncomputable def law21_FilterLinear_l3 (n5 : Int) (by6 : Int) (rv39 : (Filter × Dice)) (e322 : ((List Int) × Int × (List Int) × (List Int) × (List Int))) (rv425 : ((List Int) × Int)) (rv438 : ((List Int) × Int)) (rv450 : ((List Int) × Int)) (rv468 : ((List Int) × Int)) (sv847 : Int) : Option (Int ⊕ Bool) :=
  (if (decide (sv847 < (rv425.1.length : Int))) = true then
    (ix rv450.1 sv847).bind fun x1270 =>
    (ix rv425.1 sv847).bind fun x1281 =>
    (ix rv438.1 sv847).bind fun x1292 =>
    (if (x1270 != (w64 (x1281 + (w64 ((w64 by6) * x1292))))) = true then
      some true
    else
      (if (decide (3 ≤ sv847)) = true then
        (ix rv468.1 (w64 (sv847 - 3))).bind fun x1303 =>
        (ix rv425.1 sv847).bind fun x1314 =>
        some (x1303 != x1314)
      else
        some false).bind fun c1321 =>
      some c1321).bind fun c1322 =>
    (if c1322 = true then
      some (Sum.inr false)
    else
      some (Sum.inl (w64 (sv847 + 1))))
  else
    Option.map Sum.inr ((made_Dice_Samples (⟨e322.1, e322.2.1⟩ : Dice) 20).bind fun rv1375 =>
    (filter_Apply (⟨rv39.1.Taps, 1, rv39.1.Shift⟩ : Filter) rv1375.1 (w64 n5)).bind fun rv1390 =>
    (made_Dice_Next rv1375.2 5).bind fun rv1402 =>
    (filter_Apply (⟨rv39.1.Taps, (w64 (1 + rv1402.1)), rv39.1.Shift⟩ : Filter) rv1375.1 (w64 n5)).bind fun rv1412 =>
    ((if ((rv1390.2 != 0) || (rv1412.2 != 0)) = true then
      some true
    else
      (ref05_InRange rv1390.1).bind fun rv1435 =>
      some (!rv1435))).bind fun c1431 =>
    (if c1431 = true then
      some false
    else
      whileM (law21_FilterLinear_l5 n5 rv39 rv1390 rv1402 rv1412) (0, 0))))
noncomputable def law21_FilterLinear (t1 : (List Int)) (n5 : Int) (by6 : Int) : Option Bool :=
  (made_Light t1).bind fun rv8 =>
  (if (!rv8) = true then
    (law21_sane).bind fun rv22 =>
    some rv22
  else
    (made_Roll t1).bind fun rv28 =>
    (made_Dice_Filter rv28).bind fun rv39 =>
    (whileM (law21_FilterLinear_l1 by6 rv39) (rv39.2.L, rv39.2.At, ([] : List Int), ([] : List Int), ([] : List Int), 0)).bind fun e322 =>
    (filter_Apply (⟨rv39.1.Taps, 1, rv39.1.Shift⟩ : Filter) e322.2.2.1 0).bind fun rv425 =>
    (filter_Apply (⟨rv39.1.Taps, 1, rv39.1.Shift⟩ : Filter) e322.2.2.2.1 0).bind fun rv438 =>
    (filter_Apply (⟨rv39.1.Taps, 1, rv39.1.Shift⟩ : Filter) e322.2.2.2.2 (w64 n5)).bind fun rv450 =>
    (subM e322.2.2.1 3 (e322.2.2.1.length : Int)).bind fun l466 =>
    (filter_Apply (⟨rv39.1.Taps, 1, rv39.1.Shift⟩ : Filter) l466 3).bind fun rv468 =>
    (if ((((((((rv425.2 != 0) || (rv438.2 != 0)) || (rv450.2 != 0)) || (rv468.2 != 0)) || ((rv425.1.length : Int) != (w64 (15 - (rv39.1.Taps.length : Int))))) || ((rv438.1.length : Int) != (rv425.1.length : Int))) || ((rv450.1.length : Int) != (rv425.1.length : Int))) || ((rv468.1.length : Int) != (max (w64 ((rv425.1.length : Int) - 3)) 0))) = true then
      some false
    else
      whileM (law21_FilterLinear_l3 n5 by6 rv39 e322 rv425 rv438 rv450 rv468) (0)))

-- seismonet/filter.Convolve
noncomputable def filter_Convolve_l9 (b5 : Filter) (sv82 : ((List Int) × Int)) (x1817 : Int) (sv1826 : ((List Int) × Int)) : Option (((List Int) × Int) ⊕ (List Int)) :=
  (if (decide (sv1826.2 < (b5.Taps.length : Int))) = true then
    (ix b5.Taps sv1826.2).bind fun x2098 =>
    (ix sv1826.1 (w64 (sv82.2 + sv1826.2))).bind fun x2109 =>
    (ix sv1826.1 (w64 (sv82.2 + sv1826.2))).bind fun x2120 =>
    (setM sv1826.1 (w64 (sv82.2 + sv1826.2)) (w64 (x2109 + (w64 (x1817 * x2098))))).bind fun l2128 =>
    some (Sum.inl (l2128, (w64 (sv1826.2 + 1))))
  else
    some (Sum.inr sv1826.1))
noncomputable def filter_Convolve_l5 (a1 : Filter) (b5 : Filter) (sv82 : ((List Int) × Int)) : Option (((List Int) × Int) ⊕ (List Int)) :=
  (if (decide (sv82.2 < (a1.Taps.length : Int))) = true then
    (ix a1.Taps sv82.2).bind fun x1817 =>
    (whileM (filter_Convolve_l9 b5 sv82 x1817) (sv82.1, 0)).bind fun e2054 =>
    some (Sum.inl (e2054, (w64 (sv82.2 + 1))))
  else
    some (Sum.inr sv82.1))
noncomputable def filter_Convolve (a1 : Filter) (b5 : Filter) : Option (Filter × Int) :=
  (filter_Valid a1).bind fun rv44 =>
  ((if (!rv44) = true then
    some true
  else
    (filter_Valid b5).bind fun rv59 =>
    some (!rv59))).bind fun c56 =>
  (if c56 = true then
    some ((⟨([] : List Int), 0, 0⟩ : Filter), 1)
  else
    (if ((a1.Factor != 1) || (b5.Factor != 1)) = true then
      some ((⟨([] : List Int), 0, 0⟩ : Filter), 10)
    else
      (makeM 8 (0 : Int) (w64 ((w64 ((a1.Taps.length : Int) + (b5.Taps.length : Int))) - 1))).bind fun l74 =>
      (if ((decide (128 < (l74.length : Int))) || (decide (30 < (w64 (a1.Shift + b5.Shift))))) = true then
        some ((⟨([] : List Int), 0, 0⟩ : Filter), 8)
      else
        (whileM (filter_Convolve_l5 a1 b5) (l74, 0)).bind fun e1564 =>
        some ((⟨e1564, 1, (w64 (a1.Shift + b5.Shift))⟩ : Filter), 0))))

-- seismonet/seismonetref21.Same
noncomputable def ref21_Same (a1 : Filter) (b5 : Filter) : Option Bool :=
  ((if ((a1.Factor == b5.Factor) && (a1.Shift == b5.Shift)) = true then
    (ref05_Same a1.Taps b5.Taps).bind fun rv22 =>
    some rv22
  else
    some false)).bind fun c19 =>
  some c19

-- seismonet/seismonetref21.Valid
noncomputable def ref21_Valid_l2 (f1 : Filter) (sv289 : (Int × Int)) : Option ((Int × Int) ⊕ Bool) :=
  (if (decide (sv289.2 < (f1.Taps.length : Int))) = true then
    (ix f1.Taps sv289.2).bind fun x578 =>
    (ref01_In x578 (-1073741824) 1073741824).bind fun rv588 =>
    (if (!rv588) = true then
      some (Sum.inr false)
    else
      (ix f1.Taps sv289.2).bind fun x598 =>
      (ix f1.Taps sv289.2).bind fun x606 =>
      (some (w64 (sv289.1 + (max x598 (w64 (0 - x606)))))).bind fun sum613 =>
      (some (w64 (sv289.2 + 1))).bind fun i616 =>
      some (Sum.inl (sum613, i616)))
  else
    Option.map Sum.inr ((shlM .i64 1 (IntKind.u64.wrap f1.Shift)).bind fun shl618 =>
    some (decide (sv289.1 ≤ shl618))))
noncomputable def ref21_Valid (f1 : Filter) : Option Bool :=
  (ref01_In (f1.Taps.length : Int) 1 128).bind fun rv7 =>
  ((if (!rv7) = true then
    some true
  else
    (ref01_In f1.Shift 0 30).bind fun rv22 =>
    some (!rv22))).bind fun c19 =>
  ((if c19 = true then
    some true
  else
    (ref01_In f1.Factor 1 64).bind fun rv37 =>
    some (!rv37))).bind fun c34 =>
  (if c34 = true then
    some false
  else
    whileM (ref21_Valid_l2 f1) (0, 0))

-- seismonet/seismonetlaw21.FilterConvolves
noncomputable def law21_FilterConvolves_l2 (rv37 : (Filter × Dice)) (rv52 : (Filter × Dice)) (rv122 : ((List Int) × Int)) (rv134 : ((List Int) × Int)) (sv405 : Int) : Option (Int ⊕ Bool) :=
  (if (decide (sv405 < (rv134.1.length : Int))) = true then
    (ix rv134.1 sv405).bind fun x667 =>
    (ix rv122.1 sv405).bind fun x678 =>
    (some (w64 (x667 - x678))).bind fun sv688 =>
    (if (((decide (sv688 < (-1))) || (decide (1 < sv688))) || ((sv688 != 0) && ((w64 (rv37.1.Shift + rv52.1.Shift)) == 0))) = true then
      some (Sum.inr false)
    else
      some (Sum.inl (w64 (sv405 + 1))))
  else
    Option.map Sum.inr ((law21_sane).bind fun rv702 =>
    some rv702))
noncomputable def law21_FilterConvolves (t1 : (List Int)) : Option Bool :=
  (made_Light t1).bind fun rv6 =>
  (if (!rv6) = true then
    (law21_sane).bind fun rv20 =>
    some rv20
  else
    (made_Roll t1).bind fun rv26 =>
    (made_Dice_Filter rv26).bind fun rv37 =>
    (made_Dice_Filter rv37.2).bind fun rv52 =>
    (filter_Convolve (⟨rv37.1.Taps, 1, rv37.1.Shift⟩ : Filter) (⟨rv52.1.Taps, 1, rv52.1.Shift⟩ : Filter)).bind fun rv69 =>
    (filter_Convolve (⟨rv52.1.Taps, 1, rv52.1.Shift⟩ : Filter) (⟨rv37.1.Taps, 1, rv37.1.Shift⟩ : Filter)).bind fun rv83 =>
    (made_Dice_Samples rv52.2 24).bind fun rv95 =>
    (filter_Apply (⟨rv37.1.Taps, 1, rv37.1.Shift⟩ : Filter) rv95.1 0).bind fun rv110 =>
    (filter_Apply (⟨rv52.1.Taps, 1, rv52.1.Shift⟩ : Filter) rv110.1 0).bind fun rv122 =>
    (filter_Apply rv69.1 rv95.1 0).bind fun rv134 =>
    ((if (((((rv69.2 != 0) || (rv83.2 != 0)) || (rv110.2 != 0)) || (rv122.2 != 0)) || (rv134.2 != 0)) = true then
      some true
    else
      (ref21_Same rv69.1 rv83.1).bind fun rv160 =>
      some (!rv160))).bind fun c157 =>
    ((if c157 = true then
      some true
    else
      (ref21_Valid rv69.1).bind fun rv176 =>
      some (!rv176))).bind fun c173 =>
    (if (c173 || ((rv134.1.length : Int) != (rv122.1.length : Int))) = true then
      some false
    else
      whileM (law21_FilterConvolves_l2 rv37 rv52 rv122 rv134) (0)))

-- slices.Clone[[]int,int]
noncomputable def slices_Clone_Lint_int (s1 : (List Int)) : Option (List Int) :=
  (appM 8 ([] : List Int) s1).bind fun l9 =>
  some l9

-- seismonet/filter.Start
noncomputable def filter_Start (f1 : Filter) (number5 : Int) : Option (Feed × Int) :=
  (filter_Valid f1).bind fun rv9 =>
  (if (!rv9) = true then
    some ((⟨(⟨([] : List Int), 0, 0⟩ : Filter), ([] : List Int), 0⟩ : Feed), 1)
  else
    (filter_in number5 0 9007199254740992).bind fun rv17 =>
    (if (!rv17) = true then
      some ((⟨(⟨([] : List Int), 0, 0⟩ : Filter), ([] : List Int), 0⟩ : Feed), 2)
    else
      (slices_Clone_Lint_int f1.Taps).bind fun rv25 =>
      some ((⟨(⟨rv25, f1.Factor, f1.Shift⟩ : Filter), ([] : List Int), number5⟩ : Feed), 0)))

-- seismonet/filter.ValidFeed
noncomputable def filter_ValidFeed (d1 : Feed) : Option Bool :=
  (filter_Valid d1.Filter).bind fun rv10 =>
  ((if (rv10 && (decide ((d1.Past.length : Int) < (d1.Filter.Taps.length : Int)))) = true then
    (slices_ContainsFunc_Lint_int d1.Past filter_wrong).bind fun rv26 =>
    some (!rv26)
  else
    some false)).bind fun c23 =>
  ((if c23 = true then
    (filter_in d1.Number (d1.Past.length : Int) 18014398509481984).bind fun rv41 =>
    some rv41
  else
    some false)).bind fun c38 =>
  some c38

-- slices.Grow[[]int,int]
noncomputable def slices_Grow_Lint_int_n_j1 (sv23 : (List Int)) : Option (List Int) :=
  some sv23
noncomputable def slices_Grow_Lint_int_n (n1 : Int) : Option (List Int) :=
  (if (decide (n1 < 0)) = true then
    none
  else
    (some (w64 (n1 - (w64 (((0 : Nat) : Int) - (([] : List Int).length : Int)))))).bind fun n5 =>
    (if (decide (0 < n5)) = true then
      (subM ([] : List Int) 0 ((0 : Nat) : Int)).bind fun l28 =>
      (makeM 8 (0 : Int) n5).bind fun l30 =>
      (subM l30 0 (([] : List Int).length : Int)).bind fun l36 =>
      slices_Grow_Lint_int_n_j1 l36
    else
      slices_Grow_Lint_int_n_j1 ([] : List Int)))

-- slices.Concat[[]int,int]
noncomputable def slices_Concat_Lint_int_l1 (slices1 : (List (List Int))) (sv5 : (Int × Int)) : Option ((Int × Int) ⊕ Int) :=
  (if (decide (sv5.2 < (slices1.length : Int))) = true then
    (ix slices1 sv5.2).bind fun x156 =>
    (some (w64 (sv5.1 + (x156.length : Int)))).bind fun size170 =>
    (if (decide (size170 < 0)) = true then
      none
    else
      some (Sum.inl (size170, (w64 (sv5.2 + 1)))))
  else
    some (Sum.inr sv5.1))
noncomputable def slices_Concat_Lint_int_l2 (slices1 : (List (List Int))) (sv185 : ((List Int) × Int)) : Option (((List Int) × Int) ⊕ (List Int)) :=
  (if (decide (sv185.2 < (slices1.length : Int))) = true then
    (ix slices1 sv185.2).bind fun x352 =>
    (appM 8 sv185.1 x352).bind fun l366 =>
    some (Sum.inl (l366, (w64 (sv185.2 + 1))))
  else
    some (Sum.inr sv185.1))
noncomputable def slices_Concat_Lint_int (slices1 : (List (List Int))) : Option (List Int) :=
  (whileM (slices_Concat_Lint_int_l1 slices1) (0, 0)).bind fun e131 =>
  (slices_Grow_Lint_int_n e131).bind fun rv175 =>
  (whileM (slices_Concat_Lint_int_l2 slices1) (rv175, 0)).bind fun e323 =>
  some e323

-- seismonet/filter.Push
noncomputable def filter_Push (d1 : Feed) (samples8 : (List Int)) : Option (Feed × (List Int) × Int) :=
  (filter_ValidFeed d1).bind fun rv15 =>
  (if (!rv15) = true then
    some ((⟨(⟨([] : List Int), 0, 0⟩ : Filter), ([] : List Int), 0⟩ : Feed), ([] : List Int), 1)
  else
    (filter_check samples8 d1.Number 18014398509481984).bind fun rv23 =>
    (if (rv23 != 0) = true then
      some ((⟨(⟨([] : List Int), 0, 0⟩ : Filter), ([] : List Int), 0⟩ : Feed), ([] : List Int), rv23)
    else
      (slices_Concat_Lint_int ([d1.Past, samples8] : List (List Int))).bind fun rv33 =>
      (some (d1.Past.length : Int)).bind fun n45 =>
      (filter_outputs d1.Filter rv33 (w64 (d1.Number - n45)) n45).bind fun rv47 =>
      (slices_Clone_Lint_int d1.Filter.Taps).bind fun rv59 =>
      (subM rv33 (max 0 (w64 ((w64 ((rv33.length : Int) - (rv59.length : Int))) + 1))) (rv33.length : Int)).bind fun l74 =>
      some ((⟨(⟨rv59, d1.Filter.Factor, d1.Filter.Shift⟩ : Filter), l74, (w64 (d1.Number + (samples8.length : Int)))⟩ : Feed), rv47, 0)))

-- seismonet/seismonetref21.SameFeed
noncomputable def ref21_SameFeed (a1 : Feed) (b8 : Feed) : Option Bool :=
  (ref21_Same a1.Filter b8.Filter).bind fun rv18 =>
  ((if (rv18 && (a1.Number == b8.Number)) = true then
    (ref05_Same a1.Past b8.Past).bind fun rv34 =>
    some rv34
  else
    some false)).bind fun c31 =>
  some c31

-- seismonet/seismonetlaw21.FilterStream
noncomputable def law21_FilterStream_l2 (rv53 : ((List Int) × Dice)) (rv69 : (Feed × Int)) (rv85 : (Feed × (List Int) × Int)) (rv105 : ((List Int) × Int)) (sv396 : ((List Int) × Int × (List Int) × Int × Int × (List Int) × Int × (List Int) × Int)) : Option (((List Int) × Int × (List Int) × Int × Int × (List Int) × Int × (List Int) × Int) ⊕ Bool) :=
  (if ((decide (sv396.2.2.2.2.2.2.2.2 < (rv53.1.length : Int))) && (rv69.2 == 0)) = true then
    (made_Dice_Next (⟨sv396.1, sv396.2.1⟩ : Dice) 7).bind fun rv724 =>
    (some (min (w64 ((w64 (sv396.2.2.2.2.2.2.2.2 + 1)) + rv724.1)) (rv53.1.length : Int))).bind fun to734 =>
    (subM rv53.1 sv396.2.2.2.2.2.2.2.2 to734).bind fun l740 =>
    (filter_Push (⟨(⟨sv396.2.2.1, sv396.2.2.2.1, sv396.2.2.2.2.1⟩ : Filter), sv396.2.2.2.2.2.1, sv396.2.2.2.2.2.2.1⟩ : Feed) l740).bind fun rv742 =>
    (if (rv742.2.2 != 0) = true then
      some (Sum.inr false)
    else
      (appM 8 sv396.2.2.2.2.2.2.2.1 rv742.2.1).bind fun l768 =>
      some (Sum.inl (rv724.2.L, rv724.2.At, rv742.1.Filter.Taps, rv742.1.Filter.Factor, rv742.1.Filter.Shift, rv742.1.Past, rv742.1.Number, l768, to734)))
  else
    Option.map Sum.inr (((if (((rv69.2 == 0) && (rv85.2.2 == 0)) && (rv105.2 == 0)) = true then
      (ref05_Same sv396.2.2.2.2.2.2.2.1 rv105.1).bind fun rv788 =>
      some rv788
    else
      some false)).bind fun c785 =>
    ((if c785 = true then
      (ref05_Same rv85.2.1 rv105.1).bind fun rv806 =>
      some rv806
    else
      some false)).bind fun c803 =>
    ((if c803 = true then
      (ref21_SameFeed (⟨(⟨sv396.2.2.1, sv396.2.2.2.1, sv396.2.2.2.2.1⟩ : Filter), sv396.2.2.2.2.2.1, sv396.2.2.2.2.2.2.1⟩ : Feed) rv85.1).bind fun rv822 =>
      some rv822
    else
      some false)).bind fun c819 =>
    ((if c819 = true then
      (law21_sane).bind fun rv838 =>
      some rv838
    else
      some false)).bind fun c835 =>
    some c835))
noncomputable def law21_FilterStream (t1 : (List Int)) (n5 : Int) : Option Bool :=
  (made_Light t1).bind fun rv7 =>
  (if (!rv7) = true then
    (law21_sane).bind fun rv21 =>
    some rv21
  else
    (made_Roll t1).bind fun rv27 =>
    (made_Dice_Filter rv27).bind fun rv38 =>
    (made_Dice_Samples rv38.2 40).bind fun rv53 =>
    (filter_Start rv38.1 (w64 n5)).bind fun rv69 =>
    (filter_Push rv69.1 rv53.1).bind fun rv85 =>
    (filter_Apply rv38.1 rv53.1 (w64 n5)).bind fun rv105 =>
    whileM (law21_FilterStream_l2 rv53 rv69 rv85 rv105) (rv53.2.L, rv53.2.At, rv69.1.Filter.Taps, rv69.1.Filter.Factor, rv69.1.Filter.Shift, rv69.1.Past, rv69.1.Number, ([] : List Int), 0))

-- (*seismonet/seismonetmade.Dice).Wave
noncomputable def made_Dice_Wave_j2 (sv21 : ((List Int) × Int × (List Int) × Int × Int)) (x1073 : (List Int)) (x1074 : Int) (loud1075 : Int) (x1076 : Int) : Option (((List Int) × Int × (List Int) × Int × Int) ⊕ ((List Int) × Int × (List Int))) :=
  (appM 8 sv21.2.2.1 ([x1076] : List Int)).bind fun l1080 =>
  (some (w64 (sv21.2.2.2.2 - 1))).bind fun i1085 =>
  some (Sum.inl (x1073, x1074, l1080, loud1075, i1085))
noncomputable def made_Dice_Wave_j1 (sv21 : ((List Int) × Int × (List Int) × Int × Int)) (x1030 : (List Int)) (x1031 : Int) (loud1032 : Int) : Option (((List Int) × Int × (List Int) × Int × Int) ⊕ ((List Int) × Int × (List Int))) :=
  (made_Dice_Next (⟨x1030, x1031⟩ : Dice) 5).bind fun rv1034 =>
  (some (w64 (rv1034.1 - 2))).bind fun x1044 =>
  (if (decide (0 < loud1032)) = true then
    (made_Dice_Next rv1034.2 60).bind fun rv1088 =>
    (made_Dice_Next rv1088.2 2).bind fun rv1098 =>
    (some (w64 ((w64 (rv1088.1 + 20)) * (w64 (1 - (w64 (2 * rv1098.1))))))).bind fun x1108 =>
    (some (w64 (loud1032 - 1))).bind fun loud1110 =>
    made_Dice_Wave_j2 sv21 rv1098.2.L rv1098.2.At loud1110 x1108
  else
    made_Dice_Wave_j2 sv21 rv1034.2.L rv1034.2.At loud1032 x1044)
noncomputable def made_Dice_Wave_l1 (sv21 : ((List Int) × Int × (List Int) × Int × Int)) : Option (((List Int) × Int × (List Int) × Int × Int) ⊕ ((List Int) × Int × (List Int))) :=
  (if (decide (0 < sv21.2.2.2.2)) = true then
    ((if (sv21.2.2.2.1 == 0) = true then
      (made_Dice_Next (⟨sv21.1, sv21.2.1⟩ : Dice) 7).bind fun rv1005 =>
      some (rv1005.2.L, rv1005.2.At, (rv1005.1 == 0))
    else
      some (sv21.1, sv21.2.1, false))).bind fun c1000 =>
    (if c1000.2.2 = true then
      (made_Dice_Next (⟨c1000.1, c1000.2.1⟩ : Dice) 6).bind fun rv1113 =>
      (some (w64 (1 + rv1113.1))).bind fun loud1123 =>
      made_Dice_Wave_j1 sv21 rv1113.2.L rv1113.2.At loud1123
    else
      made_Dice_Wave_j1 sv21 c1000.1 c1000.2.1 sv21.2.2.2.1)
  else
    some (Sum.inr (sv21.1, sv21.2.1, sv21.2.2.1)))
noncomputable def made_Dice_Wave (d1 : Dice) (n8 : Int) : Option ((List Int) × Dice) :=
  (made_Dice_Next d1 n8).bind fun rv10 =>
  (some (w64 (1 + rv10.1))).bind fun i20 =>
  (whileM (made_Dice_Wave_l1) (rv10.2.L, rv10.2.At, ([] : List Int), 0, i20)).bind fun e847 =>
  some (e847.2.2, (⟨e847.1, e847.2.1⟩ : Dice))

-- seismonet/continuity.body
noncomputable def continuity_body (s1 : Segment) : Option Record :=
  some (⟨(⟨⟨#[78]⟩, ⟨#[83]⟩, ByteArray.empty, ⟨#[67, 72, 65]⟩⟩ : SourceID), s1.Start, s1.First, s1.Rate, s1.Error, 0, 0, s1.Samples⟩ : Record)

-- seismonet/source.plain
noncomputable def source_plain (c1 : Int) : Option Bool :=
  some (((decide (65 ≤ c1)) && (decide (c1 ≤ 90))) || ((decide (48 ≤ c1)) && (decide (c1 ≤ 57))))

-- seismonet/source.code
noncomputable def source_code_l2 (s1 : ByteArray) (low2 : Int) (high3 : Int) (sv75 : Int) : Option (Int ⊕ Bool) :=
  (if (decide (sv75 < (s1.size : Int))) = true then
    (byteAt s1 sv75).bind fun c161 =>
    (source_plain c161).bind fun rv163 =>
    (if (!rv163) = true then
      some (Sum.inr false)
    else
      some (Sum.inl (w64 (sv75 + 1))))
  else
    Option.map Sum.inr (some ((decide (low2 ≤ (s1.size : Int))) && (decide ((s1.size : Int) ≤ high3)))))
noncomputable def source_code (s1 : ByteArray) (low2 : Int) (high3 : Int) : Option Bool :=
  whileM (source_code_l2 s1 low2 high3) (0)

-- seismonet/source.Valid
noncomputable def source_Valid (s1 : SourceID) : Option Bool :=
  (source_code s1.Network 1 2).bind fun rv4 =>
  ((if rv4 = true then
    (source_code s1.Station 1 5).bind fun rv19 =>
    some rv19
  else
    some false)).bind fun c16 =>
  ((if c16 = true then
    (source_code s1.Location 0 2).bind fun rv34 =>
    some rv34
  else
    some false)).bind fun c31 =>
  ((if (c31 && ((s1.Location.size : Int) != 1)) = true then
    (source_code s1.Channel 3 3).bind fun rv50 =>
    some rv50
  else
    some false)).bind fun c47 =>
  some c47

-- seismonet/record.in
noncomputable def record_in (n1 : Int) (low2 : Int) (high3 : Int) : Option Bool :=
  some ((decide (low2 ≤ n1)) && (decide (n1 ≤ high3)))

-- seismonet/rate.in
noncomputable def rate_in (n1 : Int) (low2 : Int) (high3 : Int) : Option Bool :=
  some ((decide (low2 ≤ n1)) && (decide (n1 ≤ high3)))

-- seismonet/rate.gcd
noncomputable def rate_gcd_l1 (sv3 : (Int × Int)) : Option ((Int × Int) ⊕ Int) :=
  (if (sv3.2 != 0) = true then
    (remM sv3.1 sv3.2).bind fun rem41 =>
    some (Sum.inl (sv3.2, rem41))
  else
    some (Sum.inr sv3.1))
noncomputable def rate_gcd (a1 : Int) (b2 : Int) : Option Int :=
  (whileM (rate_gcd_l1) (a1, b2)).bind fun e33 =>
  some e33

-- seismonet/rate.Valid
noncomputable def rate_Valid (r1 : Rate) : Option Bool :=
  (rate_in r1.Num 1 4096).bind fun rv4 =>
  ((if rv4 = true then
    (rate_in r1.Den 1 4096).bind fun rv19 =>
    some rv19
  else
    some false)).bind fun c16 =>
  ((if c16 = true then
    (rate_gcd r1.Num r1.Den).bind fun rv34 =>
    some (rv34 == 1)
  else
    some false)).bind fun c31 =>
  some c31

-- seismonet/rate.micros
noncomputable def rate_micros (r1 : Rate) : Option Int :=
  (some (w64 (r1.Den * 1000000))).bind fun x4 =>
  some x4

-- seismonet/rate.after
noncomputable def rate_after (r1 : Rate) (k2 : Int) : Option Int :=
  (rate_micros r1).bind fun rv5 =>
  (quoM .i64 (w64 (k2 * rv5)) r1.Num).bind fun quo7 =>
  some quo7

-- seismonet/rate.Time
noncomputable def rate_Time (start1 : Int) (r2 : Rate) (k3 : Int) : Option (Int × Int) :=
  (rate_Valid r2).bind fun rv6 =>
  (if (!rv6) = true then
    some (0, 1)
  else
    (rate_in start1 0 9007199254740992).bind fun rv14 =>
    ((if (!rv14) = true then
      some true
    else
      (rate_in k3 0 16777216).bind fun rv29 =>
      some (!rv29))).bind fun c26 =>
    (if c26 = true then
      some (0, 2)
    else
      (rate_after r2 k3).bind fun rv37 =>
      (some (w64 (start1 + rv37))).bind fun x43 =>
      some (x43, 0)))

-- seismonet/record.Valid$1
noncomputable def record_Valid_fn1 (x1 : Int) : Option Bool :=
  (record_in x1 (-1073741823) 1073741823).bind fun rv3 =>
  some (!rv3)

-- seismonet/record.Valid
noncomputable def record_Valid (r1 : Record) : Option Bool :=
  (some (r1.Samples.length : Int)).bind fun n7 =>
  (source_Valid r1.Source).bind fun rv9 =>
  ((if (!rv9) = true then
    some true
  else
    (record_in n7 1 65536).bind fun rv24 =>
    some (!rv24))).bind fun c21 =>
  ((if c21 = true then
    some true
  else
    (record_in r1.First 0 (w64 (16777216 - n7))).bind fun rv39 =>
    some (!rv39))).bind fun c36 =>
  ((if c36 = true then
    some true
  else
    (record_in r1.Error 0 1099511627776).bind fun rv54 =>
    some (!rv54))).bind fun c51 =>
  ((if c51 = true then
    some true
  else
    (record_in r1.Run 0 65535).bind fun rv69 =>
    some (!rv69))).bind fun c66 =>
  ((if c66 = true then
    some true
  else
    (record_in r1.Seq 0 1073741824).bind fun rv84 =>
    some (!rv84))).bind fun c81 =>
  (if c81 = true then
    some false
  else
    (rate_Time r1.Start r1.Rate (w64 (r1.First + n7))).bind fun rv92 =>
    ((if ((rv92.2 == 0) && (decide (rv92.1 ≤ 9007199254740992))) = true then
      (slices_ContainsFunc_Lint_int r1.Samples record_Valid_fn1).bind fun rv108 =>
      some (!rv108)
    else
      some false)).bind fun c105 =>
    some c105)

-- seismonet/continuity.ValidSegment
noncomputable def continuity_ValidSegment (s1 : Segment) : Option Bool :=
  (continuity_body s1).bind fun rv7 =>
  (record_Valid rv7).bind fun rv16 =>
  some rv16

-- seismonet/rate.Slower
noncomputable def rate_Slower (r1 : Rate) (factor2 : Int) : Option (Rate × Int) :=
  (rate_Valid r1).bind fun rv6 =>
  (if (!rv6) = true then
    some ((⟨0, 0⟩ : Rate), 1)
  else
    (rate_in factor2 1 64).bind fun rv14 =>
    (if (!rv14) = true then
      some ((⟨0, 0⟩ : Rate), 2)
    else
      (rate_gcd r1.Num factor2).bind fun rv22 =>
      (quoM .i64 r1.Num rv22).bind fun quo28 =>
      (quoM .i64 factor2 rv22).bind fun quo30 =>
      (rate_Valid (⟨quo28, (w64 (r1.Den * quo30))⟩ : Rate)).bind fun rv34 =>
      (if (!rv34) = true then
        some ((⟨0, 0⟩ : Rate), 8)
      else
        some ((⟨quo28, (w64 (r1.Den * quo30))⟩ : Rate), 0))))

-- seismonet/rate.Number
noncomputable def rate_Number (r1 : Rate) (t2 : Int) : Option (Int × Int) :=
  (rate_Valid r1).bind fun rv5 =>
  (if (!rv5) = true then
    some (0, 1)
  else
    (rate_in t2 0 18014398509481984).bind fun rv13 =>
    (if (!rv13) = true then
      some (0, 2)
    else
      (rate_micros r1).bind fun rv21 =>
      (quoM .i64 t2 rv21).bind fun quo27 =>
      (remM t2 rv21).bind fun rem29 =>
      (quoM .i64 (w64 ((w64 ((w64 (2 * rem29)) * r1.Num)) + rv21)) (w64 (2 * rv21))).bind fun quo31 =>
      (some (w64 ((w64 (quo27 * r1.Num)) + quo31))).bind fun x33 =>
      some (x33, 0)))

-- seismonet/filter.Segment
noncomputable def filter_Segment_l1 (f1 : Filter) (rv51 : (Int × Int)) (sv71 : Int) : Option (Int ⊕ Int) :=
  (remM (w64 (rv51.1 + sv71)) f1.Factor).bind fun rem104 =>
  (if (rem104 != 0) = true then
    (some (w64 (sv71 + 1))).bind fun i110 =>
    some (Sum.inl i110)
  else
    some (Sum.inr sv71))
noncomputable def filter_Segment (f1 : Filter) (s5 : Segment) : Option (Segment × Bool × Int) :=
  (filter_Valid f1).bind fun rv13 =>
  ((if (!rv13) = true then
    some true
  else
    (continuity_ValidSegment s5).bind fun rv28 =>
    some (!rv28))).bind fun c25 =>
  (if c25 = true then
    some ((⟨0, 0, (⟨0, 0⟩ : Rate), 0, ([] : List Int)⟩ : Segment), false, 1)
  else
    (rate_Slower s5.Rate f1.Factor).bind fun rv36 =>
    (if (rv36.2 != 0) = true then
      some ((⟨0, 0, (⟨0, 0⟩ : Rate), 0, ([] : List Int)⟩ : Segment), false, 8)
    else
      (rate_Time s5.Start s5.Rate s5.First).bind fun rv45 =>
      (rate_Number s5.Rate rv45.1).bind fun rv51 =>
      (filter_outputs f1 s5.Samples rv51.1 0).bind fun rv57 =>
      (if ((rv57.length : Int) == 0) = true then
        some ((⟨0, 0, (⟨0, 0⟩ : Rate), 0, ([] : List Int)⟩ : Segment), false, 0)
      else
        (some (w64 ((f1.Taps.length : Int) - 1))).bind fun i70 =>
        (whileM (filter_Segment_l1 f1 rv51) (i70)).bind fun e101 =>
        (rate_Time s5.Start s5.Rate (w64 (s5.First + e101))).bind fun rv113 =>
        some ((⟨rv113.1, 0, rv36.1, (min (w64 (s5.Error + 1)) 1099511627776), rv57⟩ : Segment), true, 0))))

-- seismonet/seismonetref02.gcd
noncomputable def ref02_gcd_l1 (sv3 : (Int × Int)) : Option ((Int × Int) ⊕ Int) :=
  (if (sv3.2 != 0) = true then
    (remM sv3.1 sv3.2).bind fun rem41 =>
    some (Sum.inl (sv3.2, rem41))
  else
    some (Sum.inr sv3.1))
noncomputable def ref02_gcd (a1 : Int) (b2 : Int) : Option Int :=
  (whileM (ref02_gcd_l1) (a1, b2)).bind fun e33 =>
  some e33

-- seismonet/seismonetref02.Valid
noncomputable def ref02_Valid (r1 : Rate) : Option Bool :=
  (ref01_In r1.Num 1 4096).bind fun rv4 =>
  ((if rv4 = true then
    (ref01_In r1.Den 1 4096).bind fun rv19 =>
    some rv19
  else
    some false)).bind fun c16 =>
  ((if c16 = true then
    (ref02_gcd r1.Num r1.Den).bind fun rv34 =>
    some (rv34 == 1)
  else
    some false)).bind fun c31 =>
  some c31

-- seismonet/seismonetref02.Time
noncomputable def ref02_Time (start1 : Int) (r2 : Rate) (k3 : Int) : Option (Int × Int) :=
  (ref02_Valid r2).bind fun rv6 =>
  (if (!rv6) = true then
    some (0, 1)
  else
    (ref01_In start1 0 9007199254740992).bind fun rv14 =>
    ((if (!rv14) = true then
      some true
    else
      (ref01_In k3 0 16777216).bind fun rv29 =>
      some (!rv29))).bind fun c26 =>
    (if c26 = true then
      some (0, 2)
    else
      (quoM .i64 (w64 ((w64 (k3 * r2.Den)) * 1000000)) r2.Num).bind fun quo37 =>
      (some (w64 (start1 + quo37))).bind fun x39 =>
      some (x39, 0)))

-- seismonet/seismonetlaw21.FilterLate
noncomputable def law21_FilterLate_l2 (rv38 : (Filter × Dice)) (rv56 : (Int × Dice)) (rem83 : Int) (rv94 : (Segment × Bool × Int)) (rv107 : (Segment × Bool × Int)) (off154 : Int) (sv392 : Int) : Option (Int ⊕ Bool) :=
  (if (decide (sv392 < (rv107.1.Samples.length : Int))) = true then
    (ref02_Time rv94.1.Start rv94.1.Rate (w64 (off154 + sv392))).bind fun rv667 =>
    (ref02_Time rv107.1.Start rv107.1.Rate sv392).bind fun rv673 =>
    (ix rv94.1.Samples (w64 (off154 + sv392))).bind fun x680 =>
    (ix rv107.1.Samples sv392).bind fun x691 =>
    (if ((x680 != x691) || (rv667.1 != rv673.1)) = true then
      some (Sum.inr false)
    else
      some (Sum.inl (w64 (sv392 + 1))))
  else
    Option.map Sum.inr ((ref02_Time 1000000000000 (⟨rv56.1, 1⟩ : Rate) (w64 ((w64 (rem83 + (rv38.1.Taps.length : Int))) - 1))).bind fun rv708 =>
    ((if (decide (rv708.1 ≤ rv107.1.Start)) = true then
      (law21_sane).bind fun rv723 =>
      some rv723
    else
      some false)).bind fun c720 =>
    some c720))
noncomputable def law21_FilterLate (t1 : (List Int)) (n5 : Int) : Option Bool :=
  (made_Light t1).bind fun rv7 =>
  (if (!rv7) = true then
    (law21_sane).bind fun rv21 =>
    some rv21
  else
    (made_Roll t1).bind fun rv27 =>
    (made_Dice_Filter rv27).bind fun rv38 =>
    (made_Dice_Pick rv38.2 ([1, 2, 4, 20] : List Int)).bind fun rv56 =>
    (made_Dice_Wave rv56.2 40).bind fun rv67 =>
    (remM (w64 n5) (rv67.1.length : Int)).bind fun rem83 =>
    (subM rv67.1 rem83 (rv67.1.length : Int)).bind fun l91 =>
    (filter_Segment rv38.1 (⟨1000000000000, 0, (⟨rv56.1, 1⟩ : Rate), 0, rv67.1⟩ : Segment)).bind fun rv94 =>
    (filter_Segment rv38.1 (⟨1000000000000, rem83, (⟨rv56.1, 1⟩ : Rate), 0, l91⟩ : Segment)).bind fun rv107 =>
    (if ((rv94.2.2 != 0) || (rv107.2.2 != 0)) = true then
      some false
    else
      (if (!rv107.2.1) = true then
        ((if (decide ((l91.length : Int) < (w64 ((rv38.1.Taps.length : Int) + rv38.1.Factor)))) = true then
          (law21_sane).bind fun rv148 =>
          some rv148
        else
          some false)).bind fun c145 =>
        some c145
      else
        (some (w64 ((rv94.1.Samples.length : Int) - (rv107.1.Samples.length : Int)))).bind fun off154 =>
        (if (((!rv94.2.1) || (decide (off154 < 0))) || (!((rv94.1.Rate.Num == rv107.1.Rate.Num) && ((rv94.1.Rate.Den == rv107.1.Rate.Den) && true)))) = true then
          some false
        else
          whileM (law21_FilterLate_l2 rv38 rv56 rem83 rv94 rv107 off154) (0)))))

end Go.Proofs.Ytmihimhknllmcaa.Sh

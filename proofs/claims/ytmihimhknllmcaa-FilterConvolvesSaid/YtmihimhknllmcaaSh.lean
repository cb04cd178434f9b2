/- Each Go function as a plain program over lists and numbers (none: a panic, or no end). Printed by a program of ours out of the translation. -/
import Derived.Test.YtmihimhknllmcaaShData
namespace Go.Proofs.Ytmihimhknllmcaa.Sh
open Go
set_option linter.unusedVariables false

-- seismonet/seismonetmade.Light
noncomputable def made_Light (l1 : (List Int)) : Option Bool :=
  some (decide ((l1.length : Int) ≤ 500))

-- seismonet/filter.in
noncomputable def filter_in (n1 : Int) (low2 : Int) (high3 : Int) : Option Bool :=
  some ((decide (low2 ≤ n1)) && (decide (n1 ≤ high3)))

-- seismonet/filter.Valid
noncomputable def filter_Valid_l2 (f1 : Filter) (sv181 : (Int × Int)) : Option ((Int × Int) ⊕ Bool) :=
  (if (decide (sv181.2 < (f1.Taps.length : Int))) = true then
    (ix f1.Taps sv181.2).bind fun x345 =>
    (filter_in x345 (-1073741824) 1073741824).bind fun rv355 =>
    (if (!rv355) = true then
      some (Sum.inr false)
    else
      (some (w64 (sv181.1 + (max x345 (w64 (0 - x345)))))).bind fun sum364 =>
      some (Sum.inl (sum364, (w64 (sv181.2 + 1)))))
  else
    Option.map Sum.inr ((shlM .i64 1 f1.Shift).bind fun shl366 =>
    some (decide (sv181.1 ≤ shl366))))
noncomputable def filter_Valid (f1 : Filter) : Option Bool :=
  (filter_in (f1.Taps.length : Int) 1 128).bind fun rv7 =>
  ((if (!rv7) = true then
    some true
  else
    (filter_in f1.Shift 0 30).bind fun rv22 =>
    some (!rv22))).bind fun c19 =>
  ((if c19 = true then
    some true
  else
    (filter_in f1.Factor 1 64).bind fun rv37 =>
    some (!rv37))).bind fun c34 =>
  (if c34 = true then
    some false
  else
    whileM (filter_Valid_l2 f1) (0, 0))

-- slices.IndexFunc[[]int,int]
noncomputable def slices_IndexFunc_Lint_int_l2 (s1 : (List Int)) (f5 : Int → Option Bool) (sv135 : Int) : Option (Int ⊕ Int) :=
  (if (decide (sv135 < (s1.length : Int))) = true then
    (ix s1 sv135).bind fun x285 =>
    (f5 x285).bind fun rv295 =>
    (if rv295 = true then
      some (Sum.inr sv135)
    else
      some (Sum.inl (w64 (sv135 + 1))))
  else
    Option.map Sum.inr (some (-1)))
noncomputable def slices_IndexFunc_Lint_int (s1 : (List Int)) (f5 : Int → Option Bool) : Option Int :=
  whileM (slices_IndexFunc_Lint_int_l2 s1 f5) (0)

-- slices.ContainsFunc[[]int,int]
noncomputable def slices_ContainsFunc_Lint_int (s1 : (List Int)) (f5 : Int → Option Bool) : Option Bool :=
  (slices_IndexFunc_Lint_int s1 f5).bind fun rv11 =>
  some (decide (0 ≤ rv11))

-- seismonet/filter.wrong
noncomputable def filter_wrong (n1 : Int) : Option Bool :=
  (filter_in n1 (-1073741823) 1073741823).bind fun rv3 =>
  some (!rv3)

-- seismonet/filter.check
noncomputable def filter_check (samples1 : (List Int)) (number5 : Int) (most6 : Int) : Option Int :=
  (filter_in number5 0 most6).bind fun rv8 =>
  ((if (!rv8) = true then
    some true
  else
    (slices_ContainsFunc_Lint_int samples1 filter_wrong).bind fun rv23 =>
    some rv23)).bind fun c20 =>
  (if c20 = true then
    some 2
  else
    (if (decide (65536 < (samples1.length : Int))) = true then
      some 8
    else
      some 0))

-- seismonet/filter.output
noncomputable def filter_output_l1 (f1 : Filter) (samples5 : (List Int)) (i9 : Int) (sv11 : (Int × Int)) : Option ((Int × Int) ⊕ Int) :=
  (if (decide (sv11.2 < (f1.Taps.length : Int))) = true then
    (ix f1.Taps sv11.2).bind fun x197 =>
    (ix samples5 (w64 (i9 - sv11.2))).bind fun x208 =>
    (some (w64 (sv11.1 + (w64 (x197 * x208))))).bind fun sum218 =>
    some (Sum.inl (sum218, (w64 (sv11.2 + 1))))
  else
    some (Sum.inr sv11.1))
noncomputable def filter_output (f1 : Filter) (samples5 : (List Int)) (i9 : Int) : Option Int :=
  (whileM (filter_output_l1 f1 samples5 i9) (0, 0)).bind fun e167 =>
  (shrM .i64 e167 f1.Shift).bind fun shr221 =>
  some shr221

-- seismonet/filter.outputs
noncomputable def filter_outputs_j1 (sv14 : ((List Int) × Int)) (out295 : (List Int)) : Option (((List Int) × Int) ⊕ (List Int)) :=
  (some (w64 (sv14.2 + 1))).bind fun i297 =>
  some (Sum.inl (out295, i297))
noncomputable def filter_outputs_l1 (f1 : Filter) (samples5 : (List Int)) (number9 : Int) (sv14 : ((List Int) × Int)) : Option (((List Int) × Int) ⊕ (List Int)) :=
  (if (decide (sv14.2 < (samples5.length : Int))) = true then
    (remM (w64 (number9 + sv14.2)) f1.Factor).bind fun rem277 =>
    (if (rem277 == 0) = true then
      (filter_output f1 samples5 sv14.2).bind fun rv300 =>
      (appM 8 sv14.1 ([rv300] : List Int)).bind fun l307 =>
      filter_outputs_j1 sv14 l307
    else
      filter_outputs_j1 sv14 sv14.1)
  else
    some (Sum.inr sv14.1))
noncomputable def filter_outputs (f1 : Filter) (samples5 : (List Int)) (number9 : Int) (from10 : Int) : Option (List Int) :=
  (some (max from10 (w64 ((f1.Taps.length : Int) - 1)))).bind fun i13 =>
  (whileM (filter_outputs_l1 f1 samples5 number9) (([] : List Int), i13)).bind fun e236 =>
  some e236

-- seismonet/filter.Apply
noncomputable def filter_Apply (f1 : Filter) (samples5 : (List Int)) (number9 : Int) : Option ((List Int) × Int) :=
  (filter_Valid f1).bind fun rv12 =>
  (if (!rv12) = true then
    some (([] : List Int), 1)
  else
    (filter_check samples5 number9 9007199254740992).bind fun rv20 =>
    (if (rv20 != 0) = true then
      some (([] : List Int), rv20)
    else
      (filter_outputs f1 samples5 number9 0).bind fun rv28 =>
      some (rv28, 0)))

-- seismonet/seismonetref05.Same
noncomputable def ref05_Same_l2 (a1 : (List Int)) (b5 : (List Int)) (sv178 : Int) : Option (Int ⊕ Bool) :=
  (if (decide (sv178 < (a1.length : Int))) = true then
    (ix a1 sv178).bind fun x376 =>
    (ix b5 sv178).bind fun x387 =>
    (if (x376 != x387) = true then
      some (Sum.inr false)
    else
      (some (w64 (sv178 + 1))).bind fun i401 =>
      some (Sum.inl i401))
  else
    Option.map Sum.inr (some true))
noncomputable def ref05_Same (a1 : (List Int)) (b5 : (List Int)) : Option Bool :=
  (if ((a1.length : Int) != (b5.length : Int)) = true then
    some false
  else
    whileM (ref05_Same_l2 a1 b5) (0))

-- seismonet/seismonetlaw21.sane
noncomputable def law21_sane : Option Bool :=
  (filter_Apply (⟨([1, 1] : List Int), 1, 1⟩ : Filter) ([4, 6, 9] : List Int) 0).bind fun rv5 =>
  (filter_Apply (⟨([1, 1] : List Int), 2, 1⟩ : Filter) ([4, 6, 9] : List Int) 10).bind fun rv19 =>
  ((if ((rv5.2 == 0) && (rv19.2 == 0)) = true then
    (ref05_Same rv5.1 ([5, 7] : List Int)).bind fun rv45 =>
    some rv45
  else
    some false)).bind fun c41 =>
  ((if c41 = true then
    (ref05_Same rv19.1 ([7] : List Int)).bind fun rv66 =>
    some rv66
  else
    some false)).bind fun c62 =>
  ((if c62 = true then
    (filter_Valid (⟨([1, 1] : List Int), 2, 1⟩ : Filter)).bind fun rv83 =>
    some rv83
  else
    some false)).bind fun c80 =>
  some c80

-- seismonet/seismonetmade.Roll
noncomputable def made_Roll (l1 : (List Int)) : Option Dice :=
  some (⟨l1, 0⟩ : Dice)

-- (*seismonet/seismonetmade.Dice).Next
noncomputable def made_Dice_Next_j1 (d1 : Dice) (x33 : Int) : Option (Int × Dice) :=
  some (x33, (⟨d1.L, (w64 (d1.At + 1))⟩ : Dice))
noncomputable def made_Dice_Next (d1 : Dice) (n8 : Int) : Option (Int × Dice) :=
  (if ((decide ((d1.L.length : Int) ≤ d1.At)) || (decide (n8 < 1))) = true then
    some (0, d1)
  else
    (ix d1.L d1.At).bind fun x17 =>
    (remM x17 n8).bind fun rem27 =>
    (if (decide (rem27 < 0)) = true then
      (some (w64 (rem27 + n8))).bind fun x36 =>
      made_Dice_Next_j1 d1 x36
    else
      made_Dice_Next_j1 d1 rem27))

-- (*seismonet/seismonetmade.Dice).Pick
noncomputable def made_Dice_Pick (d1 : Dice) (l8 : (List Int)) : Option (Int × Dice) :=
  (made_Dice_Next d1 (l8.length : Int)).bind fun rv13 =>
  (ix l8 rv13.1).bind fun x24 =>
  some (x24, rv13.2)

-- (*seismonet/seismonetmade.Dice).Filter
noncomputable def made_Dice_Filter_l1 (sv48 : ((List Int) × Int × (List Int) × Int × Int)) : Option (((List Int) × Int × (List Int) × Int × Int) ⊕ ((List Int) × Int × (List Int))) :=
  (if (decide (0 < sv48.2.2.2.2)) = true then
    (made_Dice_Next (⟨sv48.1, sv48.2.1⟩ : Dice) (w64 ((w64 (2 * sv48.2.2.2.1)) + 1))).bind fun rv226 =>
    (some (w64 (rv226.1 - sv48.2.2.2.1))).bind fun x236 =>
    (some (w64 (sv48.2.2.2.1 - (max x236 (w64 (0 - x236)))))).bind fun left238 =>
    (appM 8 sv48.2.2.1 ([x236] : List Int)).bind fun l241 =>
    (some (w64 (sv48.2.2.2.2 - 1))).bind fun i246 =>
    some (Sum.inl (rv226.2.L, rv226.2.At, l241, left238, i246))
  else
    some (Sum.inr (sv48.1, sv48.2.1, sv48.2.2.1)))
noncomputable def made_Dice_Filter (d1 : Dice) : Option (Filter × Dice) :=
  (made_Dice_Pick d1 ([1, 1, 2, 3] : List Int)).bind fun rv11 =>
  (made_Dice_Pick rv11.2 ([0, 2, 4, 6] : List Int)).bind fun rv23 =>
  (shlM .i64 1 (IntKind.u64.wrap rv23.1)).bind fun shl35 =>
  (made_Dice_Next rv23.2 5).bind fun rv37 =>
  (some (w64 (1 + rv37.1))).bind fun i47 =>
  (whileM (made_Dice_Filter_l1) (rv37.2.L, rv37.2.At, ([] : List Int), shl35, i47)).bind fun e196 =>
  some ((⟨e196.2.2, rv11.1, rv23.1⟩ : Filter), (⟨e196.1, e196.2.1⟩ : Dice))

-- seismonet/seismonetlaw21.FilterImpulse
noncomputable def law21_FilterImpulse_j1 (sv368 : Int) (x686 : Int) (want711 : Int) : Option (Int ⊕ Bool) :=
  (if (x686 != want711) = true then
    some (Sum.inr false)
  else
    some (Sum.inl (w64 (sv368 + 1))))
noncomputable def law21_FilterImpulse_l3 (rv38 : (Filter × Dice)) (sv728 : (Int × Int)) : Option ((Int × Int) ⊕ Int) :=
  (if (decide (sv728.2 < (rv38.1.Taps.length : Int))) = true then
    (ix rv38.1.Taps sv728.2).bind fun x837 =>
    (some (w64 (sv728.1 + x837))).bind fun sum847 =>
    some (Sum.inl (sum847, (w64 (sv728.2 + 1))))
  else
    some (Sum.inr sv728.1))
noncomputable def law21_FilterImpulse_l4 (n5 : Int) (rv38 : (Filter × Dice)) (l850 : (List Int)) (sv853 : ((List Int) × Int)) : Option (((List Int) × Int) ⊕ (List Int)) :=
  (if (decide (sv853.2 < (l850.length : Int))) = true then
    (shlM .i64 (w64 n5) (IntKind.u64.wrap rv38.1.Shift)).bind fun shl998 =>
    (ix sv853.1 sv853.2).bind fun x1001 =>
    (setM sv853.1 sv853.2 shl998).bind fun l1011 =>
    some (Sum.inl (l1011, (w64 (sv853.2 + 1))))
  else
    some (Sum.inr sv853.1))
noncomputable def law21_FilterImpulse_l6 (n5 : Int) (e818 : Int) (rv1016 : ((List Int) × Int)) (sv1116 : Int) : Option (Int ⊕ Bool) :=
  (if (decide (sv1116 < (rv1016.1.length : Int))) = true then
    (ix rv1016.1 sv1116).bind fun x1224 =>
    (if (x1224 != (w64 (e818 * (w64 n5)))) = true then
      some (Sum.inr false)
    else
      some (Sum.inl (w64 (sv1116 + 1))))
  else
    Option.map Sum.inr (((if ((rv1016.2 == 0) && ((rv1016.1.length : Int) == 4)) = true then
      (law21_sane).bind fun rv1247 =>
      some rv1247
    else
      some false)).bind fun c1244 =>
    some c1244))
noncomputable def law21_FilterImpulse_l2 (n5 : Int) (rv38 : (Filter × Dice)) (k54 : Int) (rv80 : ((List Int) × Int)) (atv98 : Int) (sv368 : Int) : Option (Int ⊕ Bool) :=
  (if (decide (sv368 < (rv80.1.length : Int))) = true then
    (ix rv80.1 sv368).bind fun x686 =>
    (some (w64 ((w64 ((w64 (k54 - 1)) + sv368)) - atv98))).bind fun j696 =>
    (if ((decide (0 ≤ j696)) && (decide (j696 < k54))) = true then
      (ix rv38.1.Taps j696).bind fun x718 =>
      law21_FilterImpulse_j1 sv368 x686 x718
    else
      law21_FilterImpulse_j1 sv368 x686 0)
  else
    Option.map Sum.inr ((whileM (law21_FilterImpulse_l3 rv38) (0, 0)).bind fun e818 =>
    (makeM 8 (0 : Int) (w64 (k54 + 3))).bind fun l850 =>
    (whileM (law21_FilterImpulse_l4 n5 rv38 l850) (l850, 0)).bind fun e973 =>
    (filter_Apply (⟨rv38.1.Taps, 1, rv38.1.Shift⟩ : Filter) e973 0).bind fun rv1016 =>
    whileM (law21_FilterImpulse_l6 n5 e818 rv1016) (0)))
noncomputable def law21_FilterImpulse (t1 : (List Int)) (n5 : Int) : Option Bool :=
  (made_Light t1).bind fun rv7 =>
  (if (!rv7) = true then
    (law21_sane).bind fun rv21 =>
    some rv21
  else
    (made_Roll t1).bind fun rv27 =>
    (made_Dice_Filter rv27).bind fun rv38 =>
    (some (rv38.1.Taps.length : Int)).bind fun k54 =>
    (makeM 8 (0 : Int) (w64 (3 * k54))).bind fun l56 =>
    (remM (w64 n5) k54).bind fun rem60 =>
    (shlM .i64 1 (IntKind.u64.wrap rv38.1.Shift)).bind fun shl62 =>
    (ix l56 (w64 ((w64 ((w64 (2 * k54)) - 1)) - rem60))).bind fun x65 =>
    (setM l56 (w64 ((w64 ((w64 (2 * k54)) - 1)) - rem60)) shl62).bind fun l75 =>
    (filter_Apply (⟨rv38.1.Taps, 1, rv38.1.Shift⟩ : Filter) l75 0).bind fun rv80 =>
    (if ((rv80.2 != 0) || ((rv80.1.length : Int) != (w64 ((w64 (2 * k54)) + 1)))) = true then
      some false
    else
      (remM (w64 n5) k54).bind fun rem96 =>
      (some (w64 ((w64 ((w64 (2 * k54)) - 1)) - rem96))).bind fun atv98 =>
      whileM (law21_FilterImpulse_l2 n5 rv38 k54 rv80 atv98) (0)))

-- (*seismonet/seismonetmade.Dice).Samples
noncomputable def made_Dice_Samples_j1 (sv33 : ((List Int) × Int × (List Int) × Int × Int)) (x5352 : (List Int)) (x5353 : Int) (x5354 : Int) : Option (((List Int) × Int × (List Int) × Int × Int) ⊕ ((List Int) × Int × (List Int))) :=
  (some (min (max x5354 (-1073741823)) 1073741823)).bind fun x5356 =>
  (appM 8 sv33.2.2.1 ([x5356] : List Int)).bind fun l5359 =>
  (some (w64 (sv33.2.2.2.2 - 1))).bind fun i5364 =>
  some (Sum.inl (x5352, x5353, l5359, x5356, i5364))
noncomputable def made_Dice_Samples_j2 (sv33 : ((List Int) × Int × (List Int) × Int × Int)) (x5454 : (List Int)) (x5455 : Int) (x5456 : Int) : Option (((List Int) × Int × (List Int) × Int × Int) ⊕ ((List Int) × Int × (List Int))) :=
  made_Dice_Samples_j1 sv33 x5454 x5455 x5456
noncomputable def made_Dice_Samples_j3 (sv33 : ((List Int) × Int × (List Int) × Int × Int)) (x5500 : (List Int)) (x5501 : Int) (x5502 : Int) : Option (((List Int) × Int × (List Int) × Int × Int) ⊕ ((List Int) × Int × (List Int))) :=
  made_Dice_Samples_j2 sv33 x5500 x5501 x5502
noncomputable def made_Dice_Samples_l1 (sv33 : ((List Int) × Int × (List Int) × Int × Int)) : Option (((List Int) × Int × (List Int) × Int × Int) ⊕ ((List Int) × Int × (List Int))) :=
  (if (decide (0 < sv33.2.2.2.2)) = true then
    (made_Dice_Next (⟨sv33.1, sv33.2.1⟩ : Dice) 10).bind fun rv4845 =>
    (if (rv4845.1 == 0) = true then
      (made_Dice_Pick rv4845.2 ([127, 128, (-128), (-129), 300] : List Int)).bind fun rv5368 =>
      (some (w64 (sv33.2.2.2.1 + rv5368.1))).bind fun x5379 =>
      made_Dice_Samples_j1 sv33 rv5368.2.L rv5368.2.At x5379
    else
      (if (rv4845.1 == 1) = true then
        (made_Dice_Pick rv4845.2 ([32767, 32768, (-32768), (-32769)] : List Int)).bind fun rv5460 =>
        (some (w64 (sv33.2.2.2.1 + rv5460.1))).bind fun x5471 =>
        made_Dice_Samples_j2 sv33 rv5460.2.L rv5460.2.At x5471
      else
        (if (rv4845.1 == 2) = true then
          (made_Dice_Pick rv4845.2 ([0, 1073741823, (-1073741823), 536870912] : List Int)).bind fun rv5506 =>
          made_Dice_Samples_j3 sv33 rv5506.2.L rv5506.2.At rv5506.1
        else
          (made_Dice_Next rv4845.2 9).bind fun rv5517 =>
          (some (w64 (sv33.2.2.2.1 + (w64 (rv5517.1 - 4))))).bind fun x5527 =>
          made_Dice_Samples_j3 sv33 rv5517.2.L rv5517.2.At x5527)))
  else
    some (Sum.inr (sv33.1, sv33.2.1, sv33.2.2.1)))
noncomputable def made_Dice_Samples (d1 : Dice) (n8 : Int) : Option ((List Int) × Dice) :=
  (made_Dice_Pick d1 ([0, 5, (-100), 1000] : List Int)).bind fun rv11 =>
  (made_Dice_Next rv11.2 n8).bind fun rv22 =>
  (some (w64 (1 + rv22.1))).bind fun i32 =>
  (whileM (made_Dice_Samples_l1) (rv22.2.L, rv22.2.At, ([] : List Int), rv11.1, i32)).bind fun e4153 =>
  some (e4153.2.2, (⟨e4153.1, e4153.2.1⟩ : Dice))

-- seismonet/seismonetref01.In
noncomputable def ref01_In (n1 : Int) (lo2 : Int) (hi3 : Int) : Option Bool :=
  some ((decide (lo2 ≤ n1)) && (decide (n1 ≤ hi3)))

-- seismonet/seismonetref05.Sample
noncomputable def ref05_Sample (n1 : Int) : Option Bool :=
  (ref01_In n1 (-1073741823) 1073741823).bind fun rv3 =>
  some rv3

-- seismonet/seismonetref05.InRange
noncomputable def ref05_InRange_l2 (l1 : (List Int)) (sv136 : Int) : Option (Int ⊕ Bool) :=
  (if (decide (sv136 < (l1.length : Int))) = true then
    (ix l1 sv136).bind fun x292 =>
    (ref05_Sample x292).bind fun rv302 =>
    (if (!rv302) = true then
      some (Sum.inr false)
    else
      (some (w64 (sv136 + 1))).bind fun i311 =>
      some (Sum.inl i311))
  else
    Option.map Sum.inr (some true))
noncomputable def ref05_InRange (l1 : (List Int)) : Option Bool :=
  whileM (ref05_InRange_l2 l1) (0)

-- seismonet/seismonetlaw21.FilterLinear
noncomputable def law21_FilterLinear_l1 (by6 : Int) (rv39 : (Filter × Dice)) (sv54 : ((List Int) × Int × (List Int) × (List Int) × (List Int) × Int)) : Option (((List Int) × Int × (List Int) × (List Int) × (List Int) × Int) ⊕ ((List Int) × Int × (List Int) × (List Int) × (List Int))) :=
  (if (decide (sv54.2.2.2.2.2 < 14)) = true then
    (made_Dice_Next (⟨sv54.1, sv54.2.1⟩ : Dice) 9).bind fun rv355 =>
    (shlM .i64 (w64 (rv355.1 - 4)) (IntKind.u64.wrap rv39.1.Shift)).bind fun shl361 =>
    (made_Dice_Next rv355.2 9).bind fun rv363 =>
    (shlM .i64 (w64 (rv363.1 - 4)) (IntKind.u64.wrap rv39.1.Shift)).bind fun shl369 =>
    (appM 8 sv54.2.2.1 ([shl361] : List Int)).bind fun l381 =>
    (appM 8 sv54.2.2.2.1 ([shl369] : List Int)).bind fun l387 =>
    (appM 8 sv54.2.2.2.2.1 ([(w64 (shl361 + (w64 ((w64 by6) * shl369))))] : List Int)).bind fun l393 =>
    (some (w64 (sv54.2.2.2.2.2 + 1))).bind fun i398 =>
    some (Sum.inl (rv363.2.L, rv363.2.At, l381, l387, l393, i398))
  else
    some (Sum.inr (sv54.1, sv54.2.1, sv54.2.2.1, sv54.2.2.2.1, sv54.2.2.2.2.1)))
noncomputable def law21_FilterLinear_j2 (sv1802 : (Int × Int)) (j2283 : Int) : Option ((Int × Int) ⊕ Bool) :=
  some (Sum.inl (j2283, (w64 (sv1802.2 + 1))))
noncomputable def law21_FilterLinear_l5 (n5 : Int) (rv39 : (Filter × Dice)) (rv1366 : ((List Int) × Int)) (rv1378 : (Int × Dice)) (rv1388 : ((List Int) × Int)) (sv1802 : (Int × Int)) : Option ((Int × Int) ⊕ Bool) :=
  (if (decide (sv1802.2 < (rv1366.1.length : Int))) = true then
    (remM (w64 ((w64 ((w64 ((w64 n5) + (rv39.1.Taps.length : Int))) - 1)) + sv1802.2)) (w64 (1 + rv1378.1))).bind fun rem2252 =>
    (if (rem2252 == 0) = true then
      (if (decide ((rv1388.1.length : Int) ≤ sv1802.1)) = true then
        some true
      else
        (ix rv1388.1 sv1802.1).bind fun x2287 =>
        (ix rv1366.1 sv1802.2).bind fun x2298 =>
        some (x2287 != x2298)).bind fun c2307 =>
      (if c2307 = true then
        some (Sum.inr false)
      else
        (some (w64 (sv1802.1 + 1))).bind fun j2338 =>
        law21_FilterLinear_j2 sv1802 j2338)
    else
      law21_FilterLinear_j2 sv1802 sv1802.1)
  else
    Option.map Sum.inr (((if (sv1802.1 == (rv1388.1.length : Int)) = true then
      (law21_sane).bind fun rv2349 =>
      some rv2349
    else
      some false)).bind fun c2346 =>
    some c2346))
noncomputable def law21_FilterLinear_l3 (n5 : Int) (by6 : Int) (rv39 : (Filter × Dice)) (e304 : ((List Int) × Int × (List Int) × (List Int) × (List Int))) (rv401 : ((List Int) × Int)) (rv414 : ((List Int) × Int)) (rv426 : ((List Int) × Int)) (rv444 : ((List Int) × Int)) (sv823 : Int) : Option (Int ⊕ Bool) :=
  (if (decide (sv823 < (rv401.1.length : Int))) = true then
    (ix rv426.1 sv823).bind fun x1246 =>
    (ix rv401.1 sv823).bind fun x1257 =>
    (ix rv414.1 sv823).bind fun x1268 =>
    (if (x1246 != (w64 (x1257 + (w64 ((w64 by6) * x1268))))) = true then
      some true
    else
      (if (decide (3 ≤ sv823)) = true then
        (ix rv444.1 (w64 (sv823 - 3))).bind fun x1279 =>
        (ix rv401.1 sv823).bind fun x1290 =>
        some (x1279 != x1290)
      else
        some false).bind fun c1297 =>
      some c1297).bind fun c1298 =>
    (if c1298 = true then
      some (Sum.inr false)
    else
      some (Sum.inl (w64 (sv823 + 1))))
  else
    Option.map Sum.inr ((made_Dice_Samples (⟨e304.1, e304.2.1⟩ : Dice) 20).bind fun rv1351 =>
    (filter_Apply (⟨rv39.1.Taps, 1, rv39.1.Shift⟩ : Filter) rv1351.1 (w64 n5)).bind fun rv1366 =>
    (made_Dice_Next rv1351.2 5).bind fun rv1378 =>
    (filter_Apply (⟨rv39.1.Taps, (w64 (1 + rv1378.1)), rv39.1.Shift⟩ : Filter) rv1351.1 (w64 n5)).bind fun rv1388 =>
    ((if ((rv1366.2 != 0) || (rv1388.2 != 0)) = true then
      some true
    else
      (ref05_InRange rv1366.1).bind fun rv1411 =>
      some (!rv1411))).bind fun c1407 =>
    (if c1407 = true then
      some false
    else
      whileM (law21_FilterLinear_l5 n5 rv39 rv1366 rv1378 rv1388) (0, 0))))
noncomputable def law21_FilterLinear (t1 : (List Int)) (n5 : Int) (by6 : Int) : Option Bool :=
  (made_Light t1).bind fun rv8 =>
  (if (!rv8) = true then
    (law21_sane).bind fun rv22 =>
    some rv22
  else
    (made_Roll t1).bind fun rv28 =>
    (made_Dice_Filter rv28).bind fun rv39 =>
    (whileM (law21_FilterLinear_l1 by6 rv39) (rv39.2.L, rv39.2.At, ([] : List Int), ([] : List Int), ([] : List Int), 0)).bind fun e304 =>
    (filter_Apply (⟨rv39.1.Taps, 1, rv39.1.Shift⟩ : Filter) e304.2.2.1 0).bind fun rv401 =>
    (filter_Apply (⟨rv39.1.Taps, 1, rv39.1.Shift⟩ : Filter) e304.2.2.2.1 0).bind fun rv414 =>
    (filter_Apply (⟨rv39.1.Taps, 1, rv39.1.Shift⟩ : Filter) e304.2.2.2.2 (w64 n5)).bind fun rv426 =>
    (subM e304.2.2.1 3 (e304.2.2.1.length : Int)).bind fun l442 =>
    (filter_Apply (⟨rv39.1.Taps, 1, rv39.1.Shift⟩ : Filter) l442 3).bind fun rv444 =>
    (if ((((((((rv401.2 != 0) || (rv414.2 != 0)) || (rv426.2 != 0)) || (rv444.2 != 0)) || ((rv401.1.length : Int) != (w64 (15 - (rv39.1.Taps.length : Int))))) || ((rv414.1.length : Int) != (rv401.1.length : Int))) || ((rv426.1.length : Int) != (rv401.1.length : Int))) || ((rv444.1.length : Int) != (max (w64 ((rv401.1.length : Int) - 3)) 0))) = true then
      some false
    else
      whileM (law21_FilterLinear_l3 n5 by6 rv39 e304 rv401 rv414 rv426 rv444) (0)))

-- seismonet/filter.Convolve
noncomputable def filter_Convolve_l9 (b5 : Filter) (sv82 : ((List Int) × Int)) (x1817 : Int) (sv1826 : ((List Int) × Int)) : Option (((List Int) × Int) ⊕ (List Int)) :=
  (if (decide (sv1826.2 < (b5.Taps.length : Int))) = true then
    (ix b5.Taps sv1826.2).bind fun x2098 =>
    (ix sv1826.1 (w64 (sv82.2 + sv1826.2))).bind fun x2109 =>
    (ix sv1826.1 (w64 (sv82.2 + sv1826.2))).bind fun x2120 =>
    (setM sv1826.1 (w64 (sv82.2 + sv1826.2)) (w64 (x2109 + (w64 (x1817 * x2098))))).bind fun l2128 =>
    some (Sum.inl (l2128, (w64 (sv1826.2 + 1))))
  else
    some (Sum.inr sv1826.1))
noncomputable def filter_Convolve_l5 (a1 : Filter) (b5 : Filter) (sv82 : ((List Int) × Int)) : Option (((List Int) × Int) ⊕ (List Int)) :=
  (if (decide (sv82.2 < (a1.Taps.length : Int))) = true then
    (ix a1.Taps sv82.2).bind fun x1817 =>
    (whileM (filter_Convolve_l9 b5 sv82 x1817) (sv82.1, 0)).bind fun e2054 =>
    some (Sum.inl (e2054, (w64 (sv82.2 + 1))))
  else
    some (Sum.inr sv82.1))
noncomputable def filter_Convolve (a1 : Filter) (b5 : Filter) : Option (Filter × Int) :=
  (filter_Valid a1).bind fun rv44 =>
  ((if (!rv44) = true then
    some true
  else
    (filter_Valid b5).bind fun rv59 =>
    some (!rv59))).bind fun c56 =>
  (if c56 = true then
    some ((⟨([] : List Int), 0, 0⟩ : Filter), 1)
  else
    (if ((a1.Factor != 1) || (b5.Factor != 1)) = true then
      some ((⟨([] : List Int), 0, 0⟩ : Filter), 10)
    else
      (makeM 8 (0 : Int) (w64 ((w64 ((a1.Taps.length : Int) + (b5.Taps.length : Int))) - 1))).bind fun l74 =>
      (if ((decide (128 < (l74.length : Int))) || (decide (30 < (w64 (a1.Shift + b5.Shift))))) = true then
        some ((⟨([] : List Int), 0, 0⟩ : Filter), 8)
      else
        (whileM (filter_Convolve_l5 a1 b5) (l74, 0)).bind fun e1564 =>
        some ((⟨e1564, 1, (w64 (a1.Shift + b5.Shift))⟩ : Filter), 0))))

-- seismonet/seismonetref21.Same
noncomputable def ref21_Same (a1 : Filter) (b5 : Filter) : Option Bool :=
  ((if ((a1.Factor == b5.Factor) && (a1.Shift == b5.Shift)) = true then
    (ref05_Same a1.Taps b5.Taps).bind fun rv22 =>
    some rv22
  else
    some false)).bind fun c19 =>
  some c19

-- seismonet/seismonetref21.Valid
noncomputable def ref21_Valid_l2 (f1 : Filter) (sv289 : (Int × Int)) : Option ((Int × Int) ⊕ Bool) :=
  (if (decide (sv289.2 < (f1.Taps.length : Int))) = true then
    (ix f1.Taps sv289.2).bind fun x578 =>
    (ref01_In x578 (-1073741824) 1073741824).bind fun rv588 =>
    (if (!rv588) = true then
      some (Sum.inr false)
    else
      (ix f1.Taps sv289.2).bind fun x598 =>
      (ix f1.Taps sv289.2).bind fun x606 =>
      (some (w64 (sv289.1 + (max x598 (w64 (0 - x606)))))).bind fun sum613 =>
      (some (w64 (sv289.2 + 1))).bind fun i616 =>
      some (Sum.inl (sum613, i616)))
  else
    Option.map Sum.inr ((shlM .i64 1 (IntKind.u64.wrap f1.Shift)).bind fun shl618 =>
    some (decide (sv289.1 ≤ shl618))))
noncomputable def ref21_Valid (f1 : Filter) : Option Bool :=
  (ref01_In (f1.Taps.length : Int) 1 128).bind fun rv7 =>
  ((if (!rv7) = true then
    some true
  else
    (ref01_In f1.Shift 0 30).bind fun rv22 =>
    some (!rv22))).bind fun c19 =>
  ((if c19 = true then
    some true
  else
    (ref01_In f1.Factor 1 64).bind fun rv37 =>
    some (!rv37))).bind fun c34 =>
  (if c34 = true then
    some false
  else
    whileM (ref21_Valid_l2 f1) (0, 0))

-- seismonet/seismonetlaw21.FilterConvolves
noncomputable def law21_FilterConvolves_l2 (rv37 : (Filter × Dice)) (rv52 : (Filter × Dice)) (rv122 : ((List Int) × Int)) (rv134 : ((List Int) × Int)) (sv405 : Int) : Option (Int ⊕ Bool) :=
  (if (decide (sv405 < (rv134.1.length : Int))) = true then
    (ix rv134.1 sv405).bind fun x667 =>
    (ix rv122.1 sv405).bind fun x678 =>
    (some (w64 (x667 - x678))).bind fun sv688 =>
    (if (((decide (sv688 < (-1))) || (decide (1 < sv688))) || ((sv688 != 0) && ((w64 (rv37.1.Shift + rv52.1.Shift)) == 0))) = true then
      some (Sum.inr false)
    else
      some (Sum.inl (w64 (sv405 + 1))))
  else
    Option.map Sum.inr ((law21_sane).bind fun rv702 =>
    some rv702))
noncomputable def law21_FilterConvolves (t1 : (List Int)) : Option Bool :=
  (made_Light t1).bind fun rv6 =>
  (if (!rv6) = true then
    (law21_sane).bind fun rv20 =>
    some rv20
  else
    (made_Roll t1).bind fun rv26 =>
    (made_Dice_Filter rv26).bind fun rv37 =>
    (made_Dice_Filter rv37.2).bind fun rv52 =>
    (filter_Convolve (⟨rv37.1.Taps, 1, rv37.1.Shift⟩ : Filter) (⟨rv52.1.Taps, 1, rv52.1.Shift⟩ : Filter)).bind fun rv69 =>
    (filter_Convolve (⟨rv52.1.Taps, 1, rv52.1.Shift⟩ : Filter) (⟨rv37.1.Taps, 1, rv37.1.Shift⟩ : Filter)).bind fun rv83 =>
    (made_Dice_Samples rv52.2 24).bind fun rv95 =>
    (filter_Apply (⟨rv37.1.Taps, 1, rv37.1.Shift⟩ : Filter) rv95.1 0).bind fun rv110 =>
    (filter_Apply (⟨rv52.1.Taps, 1, rv52.1.Shift⟩ : Filter) rv110.1 0).bind fun rv122 =>
    (filter_Apply rv69.1 rv95.1 0).bind fun rv134 =>
    ((if (((((rv69.2 != 0) || (rv83.2 != 0)) || (rv110.2 != 0)) || (rv122.2 != 0)) || (rv134.2 != 0)) = true then
      some true
    else
      (ref21_Same rv69.1 rv83.1).bind fun rv160 =>
      some (!rv160))).bind fun c157 =>
    ((if c157 = true then
      some true
    else
      (ref21_Valid rv69.1).bind fun rv176 =>
      some (!rv176))).bind fun c173 =>
    (if (c173 || ((rv134.1.length : Int) != (rv122.1.length : Int))) = true then
      some false
    else
      whileM (law21_FilterConvolves_l2 rv37 rv52 rv122 rv134) (0)))

-- (*seismonet/seismonetmade.Dice).Wave
noncomputable def made_Dice_Wave_j2 (sv21 : ((List Int) × Int × (List Int) × Int × Int)) (x1066 : (List Int)) (x1067 : Int) (loud1068 : Int) (x1069 : Int) : Option (((List Int) × Int × (List Int) × Int × Int) ⊕ ((List Int) × Int × (List Int))) :=
  (appM 8 sv21.2.2.1 ([x1069] : List Int)).bind fun l1072 =>
  (some (w64 (sv21.2.2.2.2 - 1))).bind fun i1077 =>
  some (Sum.inl (x1066, x1067, l1072, loud1068, i1077))
noncomputable def made_Dice_Wave_j1 (sv21 : ((List Int) × Int × (List Int) × Int × Int)) (x1023 : (List Int)) (x1024 : Int) (loud1025 : Int) : Option (((List Int) × Int × (List Int) × Int × Int) ⊕ ((List Int) × Int × (List Int))) :=
  (made_Dice_Next (⟨x1023, x1024⟩ : Dice) 5).bind fun rv1027 =>
  (some (w64 (rv1027.1 - 2))).bind fun x1037 =>
  (if (decide (0 < loud1025)) = true then
    (made_Dice_Next rv1027.2 60).bind fun rv1080 =>
    (made_Dice_Next rv1080.2 2).bind fun rv1090 =>
    (some (w64 ((w64 (rv1080.1 + 20)) * (w64 (1 - (w64 (2 * rv1090.1))))))).bind fun x1100 =>
    (some (w64 (loud1025 - 1))).bind fun loud1102 =>
    made_Dice_Wave_j2 sv21 rv1090.2.L rv1090.2.At loud1102 x1100
  else
    made_Dice_Wave_j2 sv21 rv1027.2.L rv1027.2.At loud1025 x1037)
noncomputable def made_Dice_Wave_l1 (sv21 : ((List Int) × Int × (List Int) × Int × Int)) : Option (((List Int) × Int × (List Int) × Int × Int) ⊕ ((List Int) × Int × (List Int))) :=
  (if (decide (0 < sv21.2.2.2.2)) = true then
    ((if (sv21.2.2.2.1 == 0) = true then
      (made_Dice_Next (⟨sv21.1, sv21.2.1⟩ : Dice) 7).bind fun rv998 =>
      some (rv998.2.L, rv998.2.At, (rv998.1 == 0))
    else
      some (sv21.1, sv21.2.1, false))).bind fun c993 =>
    (if c993.2.2 = true then
      (made_Dice_Next (⟨c993.1, c993.2.1⟩ : Dice) 6).bind fun rv1105 =>
      (some (w64 (1 + rv1105.1))).bind fun loud1115 =>
      made_Dice_Wave_j1 sv21 rv1105.2.L rv1105.2.At loud1115
    else
      made_Dice_Wave_j1 sv21 c993.1 c993.2.1 sv21.2.2.2.1)
  else
    some (Sum.inr (sv21.1, sv21.2.1, sv21.2.2.1)))
noncomputable def made_Dice_Wave (d1 : Dice) (n8 : Int) : Option ((List Int) × Dice) :=
  (made_Dice_Next d1 n8).bind fun rv10 =>
  (some (w64 (1 + rv10.1))).bind fun i20 =>
  (whileM (made_Dice_Wave_l1) (rv10.2.L, rv10.2.At, ([] : List Int), 0, i20)).bind fun e841 =>
  some (e841.2.2, (⟨e841.1, e841.2.1⟩ : Dice))

-- seismonet/continuity.body
noncomputable def continuity_body (s1 : Segment) : Option Record :=
  some (⟨(⟨⟨#[78]⟩, ⟨#[83]⟩, ByteArray.empty, ⟨#[67, 72, 65]⟩⟩ : SourceID), s1.Start, s1.First, s1.Rate, s1.Error, 0, 0, s1.Samples⟩ : Record)

-- seismonet/source.plain
noncomputable def source_plain (c1 : Int) : Option Bool :=
  some (((decide (65 ≤ c1)) && (decide (c1 ≤ 90))) || ((decide (48 ≤ c1)) && (decide (c1 ≤ 57))))

-- seismonet/source.code
noncomputable def source_code_l2 (s1 : ByteArray) (low2 : Int) (high3 : Int) (sv75 : Int) : Option (Int ⊕ Bool) :=
  (if (decide (sv75 < (s1.size : Int))) = true then
    (byteAt s1 sv75).bind fun c161 =>
    (source_plain c161).bind fun rv163 =>
    (if (!rv163) = true then
      some (Sum.inr false)
    else
      some (Sum.inl (w64 (sv75 + 1))))
  else
    Option.map Sum.inr (some ((decide (low2 ≤ (s1.size : Int))) && (decide ((s1.size : Int) ≤ high3)))))
noncomputable def source_code (s1 : ByteArray) (low2 : Int) (high3 : Int) : Option Bool :=
  whileM (source_code_l2 s1 low2 high3) (0)

-- seismonet/source.Valid
noncomputable def source_Valid (s1 : SourceID) : Option Bool :=
  (source_code s1.Network 1 2).bind fun rv4 =>
  ((if rv4 = true then
    (source_code s1.Station 1 5).bind fun rv19 =>
    some rv19
  else
    some false)).bind fun c16 =>
  ((if c16 = true then
    (source_code s1.Location 0 2).bind fun rv34 =>
    some rv34
  else
    some false)).bind fun c31 =>
  ((if (c31 && ((s1.Location.size : Int) != 1)) = true then
    (source_code s1.Channel 3 3).bind fun rv50 =>
    some rv50
  else
    some false)).bind fun c47 =>
  some c47

-- seismonet/record.in
noncomputable def record_in (n1 : Int) (low2 : Int) (high3 : Int) : Option Bool :=
  some ((decide (low2 ≤ n1)) && (decide (n1 ≤ high3)))

-- seismonet/rate.in
noncomputable def rate_in (n1 : Int) (low2 : Int) (high3 : Int) : Option Bool :=
  some ((decide (low2 ≤ n1)) && (decide (n1 ≤ high3)))

-- seismonet/rate.gcd
noncomputable def rate_gcd_l1 (sv3 : (Int × Int)) : Option ((Int × Int) ⊕ Int) :=
  (if (sv3.2 != 0) = true then
    (remM sv3.1 sv3.2).bind fun rem41 =>
    some (Sum.inl (sv3.2, rem41))
  else
    some (Sum.inr sv3.1))
noncomputable def rate_gcd (a1 : Int) (b2 : Int) : Option Int :=
  (whileM (rate_gcd_l1) (a1, b2)).bind fun e33 =>
  some e33

-- seismonet/rate.Valid
noncomputable def rate_Valid (r1 : Rate) : Option Bool :=
  (rate_in r1.Num 1 4096).bind fun rv4 =>
  ((if rv4 = true then
    (rate_in r1.Den 1 4096).bind fun rv19 =>
    some rv19
  else
    some false)).bind fun c16 =>
  ((if c16 = true then
    (rate_gcd r1.Num r1.Den).bind fun rv34 =>
    some (rv34 == 1)
  else
    some false)).bind fun c31 =>
  some c31

-- seismonet/rate.micros
noncomputable def rate_micros (r1 : Rate) : Option Int :=
  (some (w64 (r1.Den * 1000000))).bind fun x4 =>
  some x4

-- seismonet/rate.after
noncomputable def rate_after (r1 : Rate) (k2 : Int) : Option Int :=
  (rate_micros r1).bind fun rv5 =>
  (quoM .i64 (w64 (k2 * rv5)) r1.Num).bind fun quo7 =>
  some quo7

-- seismonet/rate.Time
noncomputable def rate_Time (start1 : Int) (r2 : Rate) (k3 : Int) : Option (Int × Int) :=
  (rate_Valid r2).bind fun rv6 =>
  (if (!rv6) = true then
    some (0, 1)
  else
    (rate_in start1 0 9007199254740992).bind fun rv14 =>
    ((if (!rv14) = true then
      some true
    else
      (rate_in k3 0 16777216).bind fun rv29 =>
      some (!rv29))).bind fun c26 =>
    (if c26 = true then
      some (0, 2)
    else
      (rate_after r2 k3).bind fun rv37 =>
      (some (w64 (start1 + rv37))).bind fun x43 =>
      some (x43, 0)))

-- seismonet/record.Valid$1
noncomputable def record_Valid_fn1 (x1 : Int) : Option Bool :=
  (record_in x1 (-1073741823) 1073741823).bind fun rv3 =>
  some (!rv3)

-- seismonet/record.Valid
noncomputable def record_Valid (r1 : Record) : Option Bool :=
  (some (r1.Samples.length : Int)).bind fun n7 =>
  (source_Valid r1.Source).bind fun rv9 =>
  ((if (!rv9) = true then
    some true
  else
    (record_in n7 1 65536).bind fun rv24 =>
    some (!rv24))).bind fun c21 =>
  ((if c21 = true then
    some true
  else
    (record_in r1.First 0 (w64 (16777216 - n7))).bind fun rv39 =>
    some (!rv39))).bind fun c36 =>
  ((if c36 = true then
    some true
  else
    (record_in r1.Error 0 1099511627776).bind fun rv54 =>
    some (!rv54))).bind fun c51 =>
  ((if c51 = true then
    some true
  else
    (record_in r1.Run 0 65535).bind fun rv69 =>
    some (!rv69))).bind fun c66 =>
  ((if c66 = true then
    some true
  else
    (record_in r1.Seq 0 1073741824).bind fun rv84 =>
    some (!rv84))).bind fun c81 =>
  (if c81 = true then
    some false
  else
    (rate_Time r1.Start r1.Rate (w64 (r1.First + n7))).bind fun rv92 =>
    ((if ((rv92.2 == 0) && (decide (rv92.1 ≤ 9007199254740992))) = true then
      (slices_ContainsFunc_Lint_int r1.Samples record_Valid_fn1).bind fun rv108 =>
      some (!rv108)
    else
      some false)).bind fun c105 =>
    some c105)

-- seismonet/continuity.ValidSegment
noncomputable def continuity_ValidSegment (s1 : Segment) : Option Bool :=
  (continuity_body s1).bind fun rv7 =>
  (record_Valid rv7).bind fun rv16 =>
  some rv16

-- seismonet/rate.Slower
noncomputable def rate_Slower (r1 : Rate) (factor2 : Int) : Option (Rate × Int) :=
  (rate_Valid r1).bind fun rv6 =>
  (if (!rv6) = true then
    some ((⟨0, 0⟩ : Rate), 1)
  else
    (rate_in factor2 1 64).bind fun rv14 =>
    (if (!rv14) = true then
      some ((⟨0, 0⟩ : Rate), 2)
    else
      (rate_gcd r1.Num factor2).bind fun rv22 =>
      (quoM .i64 r1.Num rv22).bind fun quo28 =>
      (quoM .i64 factor2 rv22).bind fun quo30 =>
      (rate_Valid (⟨quo28, (w64 (r1.Den * quo30))⟩ : Rate)).bind fun rv34 =>
      (if (!rv34) = true then
        some ((⟨0, 0⟩ : Rate), 8)
      else
        some ((⟨quo28, (w64 (r1.Den * quo30))⟩ : Rate), 0))))

-- seismonet/rate.Number
noncomputable def rate_Number (r1 : Rate) (t2 : Int) : Option (Int × Int) :=
  (rate_Valid r1).bind fun rv5 =>
  (if (!rv5) = true then
    some (0, 1)
  else
    (rate_in t2 0 18014398509481984).bind fun rv13 =>
    (if (!rv13) = true then
      some (0, 2)
    else
      (rate_micros r1).bind fun rv21 =>
      (quoM .i64 t2 rv21).bind fun quo27 =>
      (remM t2 rv21).bind fun rem29 =>
      (quoM .i64 (w64 ((w64 ((w64 (2 * rem29)) * r1.Num)) + rv21)) (w64 (2 * rv21))).bind fun quo31 =>
      (some (w64 ((w64 (quo27 * r1.Num)) + quo31))).bind fun x33 =>
      some (x33, 0)))

-- seismonet/filter.Segment
noncomputable def filter_Segment_l1 (f1 : Filter) (rv51 : (Int × Int)) (sv71 : Int) : Option (Int ⊕ Int) :=
  (remM (w64 (rv51.1 + sv71)) f1.Factor).bind fun rem104 =>
  (if (rem104 != 0) = true then
    (some (w64 (sv71 + 1))).bind fun i110 =>
    some (Sum.inl i110)
  else
    some (Sum.inr sv71))
noncomputable def filter_Segment (f1 : Filter) (s5 : Segment) : Option (Segment × Bool × Int) :=
  (filter_Valid f1).bind fun rv13 =>
  ((if (!rv13) = true then
    some true
  else
    (continuity_ValidSegment s5).bind fun rv28 =>
    some (!rv28))).bind fun c25 =>
  (if c25 = true then
    some ((⟨0, 0, (⟨0, 0⟩ : Rate), 0, ([] : List Int)⟩ : Segment), false, 1)
  else
    (rate_Slower s5.Rate f1.Factor).bind fun rv36 =>
    (if (rv36.2 != 0) = true then
      some ((⟨0, 0, (⟨0, 0⟩ : Rate), 0, ([] : List Int)⟩ : Segment), false, 8)
    else
      (rate_Time s5.Start s5.Rate s5.First).bind fun rv45 =>
      (rate_Number s5.Rate rv45.1).bind fun rv51 =>
      (filter_outputs f1 s5.Samples rv51.1 0).bind fun rv57 =>
      (if ((rv57.length : Int) == 0) = true then
        some ((⟨0, 0, (⟨0, 0⟩ : Rate), 0, ([] : List Int)⟩ : Segment), false, 0)
      else
        (some (w64 ((f1.Taps.length : Int) - 1))).bind fun i70 =>
        (whileM (filter_Segment_l1 f1 rv51) (i70)).bind fun e101 =>
        (rate_Time s5.Start s5.Rate (w64 (s5.First + e101))).bind fun rv113 =>
        some ((⟨rv113.1, 0, rv36.1, (min (w64 (s5.Error + 1)) 1099511627776), rv57⟩ : Segment), true, 0))))

-- seismonet/seismonetref02.gcd
noncomputable def ref02_gcd_l1 (sv3 : (Int × Int)) : Option ((Int × Int) ⊕ Int) :=
  (if (sv3.2 != 0) = true then
    (remM sv3.1 sv3.2).bind fun rem41 =>
    some (Sum.inl (sv3.2, rem41))
  else
    some (Sum.inr sv3.1))
noncomputable def ref02_gcd (a1 : Int) (b2 : Int) : Option Int :=
  (whileM (ref02_gcd_l1) (a1, b2)).bind fun e33 =>
  some e33

-- seismonet/seismonetref02.Valid
noncomputable def ref02_Valid (r1 : Rate) : Option Bool :=
  (ref01_In r1.Num 1 4096).bind fun rv4 =>
  ((if rv4 = true then
    (ref01_In r1.Den 1 4096).bind fun rv19 =>
    some rv19
  else
    some false)).bind fun c16 =>
  ((if c16 = true then
    (ref02_gcd r1.Num r1.Den).bind fun rv34 =>
    some (rv34 == 1)
  else
    some false)).bind fun c31 =>
  some c31

-- seismonet/seismonetref02.Time
noncomputable def ref02_Time (start1 : Int) (r2 : Rate) (k3 : Int) : Option (Int × Int) :=
  (ref02_Valid r2).bind fun rv6 =>
  (if (!rv6) = true then
    some (0, 1)
  else
    (ref01_In start1 0 9007199254740992).bind fun rv14 =>
    ((if (!rv14) = true then
      some true
    else
      (ref01_In k3 0 16777216).bind fun rv29 =>
      some (!rv29))).bind fun c26 =>
    (if c26 = true then
      some (0, 2)
    else
      (quoM .i64 (w64 ((w64 (k3 * r2.Den)) * 1000000)) r2.Num).bind fun quo37 =>
      (some (w64 (start1 + quo37))).bind fun x39 =>
      some (x39, 0)))

-- seismonet/seismonetlaw21.FilterLate
noncomputable def law21_FilterLate_l2 (rv38 : (Filter × Dice)) (rv55 : (Int × Dice)) (rem82 : Int) (rv93 : (Segment × Bool × Int)) (rv106 : (Segment × Bool × Int)) (off153 : Int) (sv391 : Int) : Option (Int ⊕ Bool) :=
  (if (decide (sv391 < (rv106.1.Samples.length : Int))) = true then
    (ref02_Time rv93.1.Start rv93.1.Rate (w64 (off153 + sv391))).bind fun rv666 =>
    (ref02_Time rv106.1.Start rv106.1.Rate sv391).bind fun rv672 =>
    (ix rv93.1.Samples (w64 (off153 + sv391))).bind fun x679 =>
    (ix rv106.1.Samples sv391).bind fun x690 =>
    (if ((x679 != x690) || (rv666.1 != rv672.1)) = true then
      some (Sum.inr false)
    else
      some (Sum.inl (w64 (sv391 + 1))))
  else
    Option.map Sum.inr ((ref02_Time 1000000000000 (⟨rv55.1, 1⟩ : Rate) (w64 ((w64 (rem82 + (rv38.1.Taps.length : Int))) - 1))).bind fun rv707 =>
    ((if (decide (rv707.1 ≤ rv106.1.Start)) = true then
      (law21_sane).bind fun rv722 =>
      some rv722
    else
      some false)).bind fun c719 =>
    some c719))
noncomputable def law21_FilterLate (t1 : (List Int)) (n5 : Int) : Option Bool :=
  (made_Light t1).bind fun rv7 =>
  (if (!rv7) = true then
    (law21_sane).bind fun rv21 =>
    some rv21
  else
    (made_Roll t1).bind fun rv27 =>
    (made_Dice_Filter rv27).bind fun rv38 =>
    (made_Dice_Pick rv38.2 ([1, 2, 4, 20] : List Int)).bind fun rv55 =>
    (made_Dice_Wave rv55.2 40).bind fun rv66 =>
    (remM (w64 n5) (rv66.1.length : Int)).bind fun rem82 =>
    (subM rv66.1 rem82 (rv66.1.length : Int)).bind fun l90 =>
    (filter_Segment rv38.1 (⟨1000000000000, 0, (⟨rv55.1, 1⟩ : Rate), 0, rv66.1⟩ : Segment)).bind fun rv93 =>
    (filter_Segment rv38.1 (⟨1000000000000, rem82, (⟨rv55.1, 1⟩ : Rate), 0, l90⟩ : Segment)).bind fun rv106 =>
    (if ((rv93.2.2 != 0) || (rv106.2.2 != 0)) = true then
      some false
    else
      (if (!rv106.2.1) = true then
        ((if (decide ((l90.length : Int) < (w64 ((rv38.1.Taps.length : Int) + rv38.1.Factor)))) = true then
          (law21_sane).bind fun rv147 =>
          some rv147
        else
          some false)).bind fun c144 =>
        some c144
      else
        (some (w64 ((rv93.1.Samples.length : Int) - (rv106.1.Samples.length : Int)))).bind fun off153 =>
        (if (((!rv93.2.1) || (decide (off153 < 0))) || (!((rv93.1.Rate.Num == rv106.1.Rate.Num) && ((rv93.1.Rate.Den == rv106.1.Rate.Den) && true)))) = true then
          some false
        else
          whileM (law21_FilterLate_l2 rv38 rv55 rem82 rv93 rv106 off153) (0)))))

end Go.Proofs.Ytmihimhknllmcaa.Sh

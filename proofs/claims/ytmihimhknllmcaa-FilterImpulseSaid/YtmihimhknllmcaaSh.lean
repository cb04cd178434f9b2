/- Each Go function as a plain program over lists and numbers (none: a panic, or no end). Printed by a program of ours out of the translation. -/
import Derived.Test.YtmihimhknllmcaaShData
namespace Go.Proofs.Ytmihimhknllmcaa.Sh
open Go
set_option linter.unusedVariables false

-- seismonet/seismonetmade.Light
noncomputable def made_Light (l1 : (List Int)) : Option Bool :=
  some (decide ((l1.length : Int) ≤ 500))

-- seismonet/filter.in
noncomputable def filter_in (n1 : Int) (low2 : Int) (high3 : Int) : Option Bool :=
  some ((decide (low2 ≤ n1)) && (decide (n1 ≤ high3)))

-- seismonet/filter.Valid
noncomputable def filter_Valid_l2 (f1 : Filter) (sv181 : (Int × Int)) : Option ((Int × Int) ⊕ Bool) :=
  (if (decide (sv181.2 < (f1.Taps.length : Int))) = true then
    (ix f1.Taps sv181.2).bind fun x345 =>
    (filter_in x345 (-1073741824) 1073741824).bind fun rv355 =>
    (if (!rv355) = true then
      some (Sum.inr false)
    else
      (some (w64 (sv181.1 + (max x345 (w64 (0 - x345)))))).bind fun sum364 =>
      some (Sum.inl (sum364, (w64 (sv181.2 + 1)))))
  else
    Option.map Sum.inr ((shlM .i64 1 f1.Shift).bind fun shl366 =>
    some (decide (sv181.1 ≤ shl366))))
noncomputable def filter_Valid (f1 : Filter) : Option Bool :=
  (filter_in (f1.Taps.length : Int) 1 128).bind fun rv7 =>
  ((if (!rv7) = true then
    some true
  else
    (filter_in f1.Shift 0 30).bind fun rv22 =>
    some (!rv22))).bind fun c19 =>
  ((if c19 = true then
    some true
  else
    (filter_in f1.Factor 1 64).bind fun rv37 =>
    some (!rv37))).bind fun c34 =>
  (if c34 = true then
    some false
  else
    whileM (filter_Valid_l2 f1) (0, 0))

-- slices.IndexFunc[[]int,int]
noncomputable def slices_IndexFunc_Lint_int_l2 (s1 : (List Int)) (f5 : Int → Option Bool) (sv135 : Int) : Option (Int ⊕ Int) :=
  (if (decide (sv135 < (s1.length : Int))) = true then
    (ix s1 sv135).bind fun x285 =>
    (f5 x285).bind fun rv295 =>
    (if rv295 = true then
      some (Sum.inr sv135)
    else
      some (Sum.inl (w64 (sv135 + 1))))
  else
    Option.map Sum.inr (some (-1)))
noncomputable def slices_IndexFunc_Lint_int (s1 : (List Int)) (f5 : Int → Option Bool) : Option Int :=
  whileM (slices_IndexFunc_Lint_int_l2 s1 f5) (0)

-- slices.ContainsFunc[[]int,int]
noncomputable def slices_ContainsFunc_Lint_int (s1 : (List Int)) (f5 : Int → Option Bool) : Option Bool :=
  (slices_IndexFunc_Lint_int s1 f5).bind fun rv11 =>
  some (decide (0 ≤ rv11))

-- seismonet/filter.wrong
noncomputable def filter_wrong (n1 : Int) : Option Bool :=
  (filter_in n1 (-1073741823) 1073741823).bind fun rv3 =>
  some (!rv3)

-- seismonet/filter.check
noncomputable def filter_check (samples1 : (List Int)) (number5 : Int) (most6 : Int) : Option Int :=
  (filter_in number5 0 most6).bind fun rv8 =>
  ((if (!rv8) = true then
    some true
  else
    (slices_ContainsFunc_Lint_int samples1 filter_wrong).bind fun rv23 =>
    some rv23)).bind fun c20 =>
  (if c20 = true then
    some 2
  else
    (if (decide (65536 < (samples1.length : Int))) = true then
      some 8
    else
      some 0))

-- seismonet/filter.output
noncomputable def filter_output_l1 (f1 : Filter) (samples5 : (List Int)) (i9 : Int) (sv11 : (Int × Int)) : Option ((Int × Int) ⊕ Int) :=
  (if (decide (sv11.2 < (f1.Taps.length : Int))) = true then
    (ix f1.Taps sv11.2).bind fun x197 =>
    (ix samples5 (w64 (i9 - sv11.2))).bind fun x208 =>
    (some (w64 (sv11.1 + (w64 (x197 * x208))))).bind fun sum218 =>
    some (Sum.inl (sum218, (w64 (sv11.2 + 1))))
  else
    some (Sum.inr sv11.1))
noncomputable def filter_output (f1 : Filter) (samples5 : (List Int)) (i9 : Int) : Option Int :=
  (whileM (filter_output_l1 f1 samples5 i9) (0, 0)).bind fun e167 =>
  (shrM .i64 e167 f1.Shift).bind fun shr221 =>
  some shr221

-- seismonet/filter.outputs
noncomputable def filter_outputs_j1 (sv14 : ((List Int) × Int)) (out295 : (List Int)) : Option (((List Int) × Int) ⊕ (List Int)) :=
  (some (w64 (sv14.2 + 1))).bind fun i297 =>
  some (Sum.inl (out295, i297))
noncomputable def filter_outputs_l1 (f1 : Filter) (samples5 : (List Int)) (number9 : Int) (sv14 : ((List Int) × Int)) : Option (((List Int) × Int) ⊕ (List Int)) :=
  (if (decide (sv14.2 < (samples5.length : Int))) = true then
    (remM (w64 (number9 + sv14.2)) f1.Factor).bind fun rem277 =>
    (if (rem277 == 0) = true then
      (filter_output f1 samples5 sv14.2).bind fun rv300 =>
      (appM 8 sv14.1 ([rv300] : List Int)).bind fun l307 =>
      filter_outputs_j1 sv14 l307
    else
      filter_outputs_j1 sv14 sv14.1)
  else
    some (Sum.inr sv14.1))
noncomputable def filter_outputs (f1 : Filter) (samples5 : (List Int)) (number9 : Int) (from10 : Int) : Option (List Int) :=
  (some (max from10 (w64 ((f1.Taps.length : Int) - 1)))).bind fun i13 =>
  (whileM (filter_outputs_l1 f1 samples5 number9) (([] : List Int), i13)).bind fun e236 =>
  some e236

-- seismonet/filter.Apply
noncomputable def filter_Apply (f1 : Filter) (samples5 : (List Int)) (number9 : Int) : Option ((List Int) × Int) :=
  (filter_Valid f1).bind fun rv12 =>
  (if (!rv12) = true then
    some (([] : List Int), 1)
  else
    (filter_check samples5 number9 9007199254740992).bind fun rv20 =>
    (if (rv20 != 0) = true then
      some (([] : List Int), rv20)
    else
      (filter_outputs f1 samples5 number9 0).bind fun rv28 =>
      some (rv28, 0)))

-- seismonet/seismonetref05.Same
noncomputable def ref05_Same_l2 (a1 : (List Int)) (b5 : (List Int)) (sv178 : Int) : Option (Int ⊕ Bool) :=
  (if (decide (sv178 < (a1.length : Int))) = true then
    (ix a1 sv178).bind fun x376 =>
    (ix b5 sv178).bind fun x387 =>
    (if (x376 != x387) = true then
      some (Sum.inr false)
    else
      (some (w64 (sv178 + 1))).bind fun i401 =>
      some (Sum.inl i401))
  else
    Option.map Sum.inr (some true))
noncomputable def ref05_Same (a1 : (List Int)) (b5 : (List Int)) : Option Bool :=
  (if ((a1.length : Int) != (b5.length : Int)) = true then
    some false
  else
    whileM (ref05_Same_l2 a1 b5) (0))

-- seismonet/seismonetlaw21.sane
noncomputable def law21_sane : Option Bool :=
  (filter_Apply (⟨([1, 1] : List Int), 1, 1⟩ : Filter) ([4, 6, 9] : List Int) 0).bind fun rv5 =>
  (filter_Apply (⟨([1, 1] : List Int), 2, 1⟩ : Filter) ([4, 6, 9] : List Int) 10).bind fun rv19 =>
  ((if ((rv5.2 == 0) && (rv19.2 == 0)) = true then
    (ref05_Same rv5.1 ([5, 7] : List Int)).bind fun rv45 =>
    some rv45
  else
    some false)).bind fun c41 =>
  ((if c41 = true then
    (ref05_Same rv19.1 ([7] : List Int)).bind fun rv66 =>
    some rv66
  else
    some false)).bind fun c62 =>
  ((if c62 = true then
    (filter_Valid (⟨([1, 1] : List Int), 2, 1⟩ : Filter)).bind fun rv83 =>
    some rv83
  else
    some false)).bind fun c80 =>
  some c80

-- seismonet/seismonetmade.Roll
noncomputable def made_Roll (l1 : (List Int)) : Option Dice :=
  some (⟨l1, 0⟩ : Dice)

-- (*seismonet/seismonetmade.Dice).Next
noncomputable def made_Dice_Next_j1 (d1 : Dice) (x33 : Int) : Option (Int × Dice) :=
  some (x33, (⟨d1.L, (w64 (d1.At + 1))⟩ : Dice))
noncomputable def made_Dice_Next (d1 : Dice) (n8 : Int) : Option (Int × Dice) :=
  (if ((decide ((d1.L.length : Int) ≤ d1.At)) || (decide (n8 < 1))) = true then
    some (0, d1)
  else
    (ix d1.L d1.At).bind fun x17 =>
    (remM x17 n8).bind fun rem27 =>
    (if (decide (rem27 < 0)) = true then
      (some (w64 (rem27 + n8))).bind fun x36 =>
      made_Dice_Next_j1 d1 x36
    else
      made_Dice_Next_j1 d1 rem27))

-- (*seismonet/seismonetmade.Dice).Pick
noncomputable def made_Dice_Pick (d1 : Dice) (l8 : (List Int)) : Option (Int × Dice) :=
  (made_Dice_Next d1 (l8.length : Int)).bind fun rv13 =>
  (ix l8 rv13.1).bind fun x24 =>
  some (x24, rv13.2)

-- (*seismonet/seismonetmade.Dice).Filter
noncomputable def made_Dice_Filter_l1 (sv48 : ((List Int) × Int × (List Int) × Int × Int)) : Option (((List Int) × Int × (List Int) × Int × Int) ⊕ ((List Int) × Int × (List Int))) :=
  (if (decide (0 < sv48.2.2.2.2)) = true then
    (made_Dice_Next (⟨sv48.1, sv48.2.1⟩ : Dice) (w64 ((w64 (2 * sv48.2.2.2.1)) + 1))).bind fun rv226 =>
    (some (w64 (rv226.1 - sv48.2.2.2.1))).bind fun x236 =>
    (some (w64 (sv48.2.2.2.1 - (max x236 (w64 (0 - x236)))))).bind fun left238 =>
    (appM 8 sv48.2.2.1 ([x236] : List Int)).bind fun l241 =>
    (some (w64 (sv48.2.2.2.2 - 1))).bind fun i246 =>
    some (Sum.inl (rv226.2.L, rv226.2.At, l241, left238, i246))
  else
    some (Sum.inr (sv48.1, sv48.2.1, sv48.2.2.1)))
noncomputable def made_Dice_Filter (d1 : Dice) : Option (Filter × Dice) :=
  (made_Dice_Pick d1 ([1, 1, 2, 3] : List Int)).bind fun rv11 =>
  (made_Dice_Pick rv11.2 ([0, 2, 4, 6] : List Int)).bind fun rv23 =>
  (shlM .i64 1 (IntKind.u64.wrap rv23.1)).bind fun shl35 =>
  (made_Dice_Next rv23.2 5).bind fun rv37 =>
  (some (w64 (1 + rv37.1))).bind fun i47 =>
  (whileM (made_Dice_Filter_l1) (rv37.2.L, rv37.2.At, ([] : List Int), shl35, i47)).bind fun e196 =>
  some ((⟨e196.2.2, rv11.1, rv23.1⟩ : Filter), (⟨e196.1, e196.2.1⟩ : Dice))

-- seismonet/seismonetlaw21.FilterImpulse
noncomputable def law21_FilterImpulse_j1 (sv368 : Int) (x686 : Int) (want711 : Int) : Option (Int ⊕ Bool) :=
  (if (x686 != want711) = true then
    some (Sum.inr false)
  else
    some (Sum.inl (w64 (sv368 + 1))))
noncomputable def law21_FilterImpulse_l3 (rv38 : (Filter × Dice)) (sv728 : (Int × Int)) : Option ((Int × Int) ⊕ Int) :=
  (if (decide (sv728.2 < (rv38.1.Taps.length : Int))) = true then
    (ix rv38.1.Taps sv728.2).bind fun x837 =>
    (some (w64 (sv728.1 + x837))).bind fun sum847 =>
    some (Sum.inl (sum847, (w64 (sv728.2 + 1))))
  else
    some (Sum.inr sv728.1))
noncomputable def law21_FilterImpulse_l4 (n5 : Int) (rv38 : (Filter × Dice)) (l850 : (List Int)) (sv853 : ((List Int) × Int)) : Option (((List Int) × Int) ⊕ (List Int)) :=
  (if (decide (sv853.2 < (l850.length : Int))) = true then
    (shlM .i64 (w64 n5) (IntKind.u64.wrap rv38.1.Shift)).bind fun shl998 =>
    (ix sv853.1 sv853.2).bind fun x1001 =>
    (setM sv853.1 sv853.2 shl998).bind fun l1011 =>
    some (Sum.inl (l1011, (w64 (sv853.2 + 1))))
  else
    some (Sum.inr sv853.1))
noncomputable def law21_FilterImpulse_l6 (n5 : Int) (e818 : Int) (rv1016 : ((List Int) × Int)) (sv1116 : Int) : Option (Int ⊕ Bool) :=
  (if (decide (sv1116 < (rv1016.1.length : Int))) = true then
    (ix rv1016.1 sv1116).bind fun x1224 =>
    (if (x1224 != (w64 (e818 * (w64 n5)))) = true then
      some (Sum.inr false)
    else
      some (Sum.inl (w64 (sv1116 + 1))))
  else
    Option.map Sum.inr (((if ((rv1016.2 == 0) && ((rv1016.1.length : Int) == 4)) = true then
      (law21_sane).bind fun rv1247 =>
      some rv1247
    else
      some false)).bind fun c1244 =>
    some c1244))
noncomputable def law21_FilterImpulse_l2 (n5 : Int) (rv38 : (Filter × Dice)) (k54 : Int) (rv80 : ((List Int) × Int)) (atv98 : Int) (sv368 : Int) : Option (Int ⊕ Bool) :=
  (if (decide (sv368 < (rv80.1.length : Int))) = true then
    (ix rv80.1 sv368).bind fun x686 =>
    (some (w64 ((w64 ((w64 (k54 - 1)) + sv368)) - atv98))).bind fun j696 =>
    (if ((decide (0 ≤ j696)) && (decide (j696 < k54))) = true then
      (ix rv38.1.Taps j696).bind fun x718 =>
      law21_FilterImpulse_j1 sv368 x686 x718
    else
      law21_FilterImpulse_j1 sv368 x686 0)
  else
    Option.map Sum.inr ((whileM (law21_FilterImpulse_l3 rv38) (0, 0)).bind fun e818 =>
    (makeM 8 (0 : Int) (w64 (k54 + 3))).bind fun l850 =>
    (whileM (law21_FilterImpulse_l4 n5 rv38 l850) (l850, 0)).bind fun e973 =>
    (filter_Apply (⟨rv38.1.Taps, 1, rv38.1.Shift⟩ : Filter) e973 0).bind fun rv1016 =>
    whileM (law21_FilterImpulse_l6 n5 e818 rv1016) (0)))
noncomputable def law21_FilterImpulse (t1 : (List Int)) (n5 : Int) : Option Bool :=
  (made_Light t1).bind fun rv7 =>
  (if (!rv7) = true then
    (law21_sane).bind fun rv21 =>
    some rv21
  else
    (made_Roll t1).bind fun rv27 =>
    (made_Dice_Filter rv27).bind fun rv38 =>
    (some (rv38.1.Taps.length : Int)).bind fun k54 =>
    (makeM 8 (0 : Int) (w64 (3 * k54))).bind fun l56 =>
    (remM (w64 n5) k54).bind fun rem60 =>
    (shlM .i64 1 (IntKind.u64.wrap rv38.1.Shift)).bind fun shl62 =>
    (ix l56 (w64 ((w64 ((w64 (2 * k54)) - 1)) - rem60))).bind fun x65 =>
    (setM l56 (w64 ((w64 ((w64 (2 * k54)) - 1)) - rem60)) shl62).bind fun l75 =>
    (filter_Apply (⟨rv38.1.Taps, 1, rv38.1.Shift⟩ : Filter) l75 0).bind fun rv80 =>
    (if ((rv80.2 != 0) || ((rv80.1.length : Int) != (w64 ((w64 (2 * k54)) + 1)))) = true then
      some false
    else
      (remM (w64 n5) k54).bind fun rem96 =>
      (some (w64 ((w64 ((w64 (2 * k54)) - 1)) - rem96))).bind fun atv98 =>
      whileM (law21_FilterImpulse_l2 n5 rv38 k54 rv80 atv98) (0)))

end Go.Proofs.Ytmihimhknllmcaa.Sh

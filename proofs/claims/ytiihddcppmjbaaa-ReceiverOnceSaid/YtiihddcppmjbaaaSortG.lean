/- The sort of slices.SortFunc as a plain program over any type: the text that our program prints for one type, said of all. -/
import Derived.Test.YtiihddcppmjbaaaSim
import Derived.Test.YtiihddcppmjbaaaSh
namespace Go.Proofs.Ytiihddcppmjbaaa.Sh
open Go
set_option linter.unusedVariables false

-- slices.insertionSortCmpFunc
noncomputable def slices_insertionSortCmpFunc_G_l6 {α : Type} (a6 : Int) (cmp8 : α → α → Option Int) (sv1017 : ((List α) × Int)) : Option (((List α) × Int) ⊕ (List α)) :=
  (if (decide (a6 < sv1017.2)) = true then
    (ix sv1017.1 sv1017.2).bind fun x1264 =>
    (ix sv1017.1 (w64 (sv1017.2 - 1))).bind fun x1277 =>
    (cmp8 x1264 x1277).bind fun rv1285 =>
    some (decide (rv1285 < 0))
  else
    some false).bind fun c1286 =>
  (if c1286 = true then
    (ix sv1017.1 (w64 (sv1017.2 - 1))).bind fun x1372 =>
    (ix sv1017.1 sv1017.2).bind fun x1385 =>
    (ix sv1017.1 sv1017.2).bind fun x1394 =>
    (setM sv1017.1 sv1017.2 x1372).bind fun l1402 =>
    (ix l1402 (w64 (sv1017.2 - 1))).bind fun x1407 =>
    (setM l1402 (w64 (sv1017.2 - 1)) x1385).bind fun l1415 =>
    (some (w64 (sv1017.2 - 1))).bind fun j1424 =>
    some (Sum.inl (l1415, j1424))
  else
    some (Sum.inr sv1017.1))
noncomputable def slices_insertionSortCmpFunc_G_l3 {α : Type} (a6 : Int) (b7 : Int) (cmp8 : α → α → Option Int) (sv15 : ((List α) × Int)) : Option (((List α) × Int) ⊕ (List α)) :=
  (if (decide (sv15.2 < b7)) = true then
    (whileM (slices_insertionSortCmpFunc_G_l6 a6 cmp8) (sv15.1, sv15.2)).bind fun e1259 =>
    (some (w64 (sv15.2 + 1))).bind fun i1427 =>
    some (Sum.inl (e1259, i1427))
  else
    some (Sum.inr sv15.1))
noncomputable def slices_insertionSortCmpFunc_G {α : Type} (data1 : (List α)) (a6 : Int) (b7 : Int) (cmp8 : α → α → Option Int) : Option (List α) :=
  (some (w64 (a6 + 1))).bind fun i14 =>
  (whileM (slices_insertionSortCmpFunc_G_l3 a6 b7 cmp8) (data1, i14)).bind fun e767 =>
  some e767

-- slices.siftDownCmpFunc
noncomputable def slices_siftDownCmpFunc_G_j1 {α : Type} (first8 : Int) (cmp9 : α → α → Option Int) (sv336 : ((List α) × Int)) (child834 : Int) : Option (((List α) × Int) ⊕ (List α)) :=
  (ix sv336.1 (w64 (first8 + sv336.2))).bind fun x837 =>
  (ix sv336.1 (w64 (first8 + child834))).bind fun x850 =>
  (cmp9 x837 x850).bind fun rv858 =>
  (if (!(decide (rv858 < 0))) = true then
    some (Sum.inr sv336.1)
  else
    (ix sv336.1 (w64 (first8 + child834))).bind fun x869 =>
    (ix sv336.1 (w64 (first8 + sv336.2))).bind fun x878 =>
    (ix sv336.1 (w64 (first8 + sv336.2))).bind fun x887 =>
    (setM sv336.1 (w64 (first8 + sv336.2)) x869).bind fun l895 =>
    (ix l895 (w64 (first8 + child834))).bind fun x900 =>
    (setM l895 (w64 (first8 + child834)) x878).bind fun l908 =>
    some (Sum.inl (l908, child834)))
noncomputable def slices_siftDownCmpFunc_G_l2 {α : Type} (hi7 : Int) (first8 : Int) (cmp9 : α → α → Option Int) (sv336 : ((List α) × Int)) : Option (((List α) × Int) ⊕ (List α)) :=
  (some (w64 ((w64 (2 * sv336.2)) + 1))).bind fun child766 =>
  (if (decide (hi7 ≤ child766)) = true then
    Option.map Sum.inr (some sv336.1)
  else
    (if (decide ((w64 (child766 + 1)) < hi7)) = true then
      (ix sv336.1 (w64 (first8 + child766))).bind fun x775 =>
      (ix sv336.1 (w64 ((w64 (first8 + child766)) + 1))).bind fun x788 =>
      (cmp9 x775 x788).bind fun rv796 =>
      some (decide (rv796 < 0))
    else
      some false).bind fun c797 =>
    (if c797 = true then
      (some (w64 (child766 + 1))).bind fun child918 =>
      slices_siftDownCmpFunc_G_j1 first8 cmp9 sv336 child918
    else
      slices_siftDownCmpFunc_G_j1 first8 cmp9 sv336 child766))
noncomputable def slices_siftDownCmpFunc_G {α : Type} (data1 : (List α)) (lo6 : Int) (hi7 : Int) (first8 : Int) (cmp9 : α → α → Option Int) : Option (List α) :=
  whileM (slices_siftDownCmpFunc_G_l2 hi7 first8 cmp9) (data1, lo6)

-- slices.heapSortCmpFunc
noncomputable def slices_heapSortCmpFunc_G_l1 {α : Type} (a6 : Int) (cmp8 : α → α → Option Int) (hi14 : Int) (sv17 : ((List α) × Int)) : Option (((List α) × Int) ⊕ (List α)) :=
  (if (decide (0 ≤ sv17.2)) = true then
    (slices_siftDownCmpFunc_G sv17.1 sv17.2 hi14 a6 cmp8).bind fun rv88 =>
    (some (w64 (sv17.2 - 1))).bind fun i100 =>
    some (Sum.inl (rv88, i100))
  else
    some (Sum.inr sv17.1))
noncomputable def slices_heapSortCmpFunc_G_l2 {α : Type} (a6 : Int) (cmp8 : α → α → Option Int) (sv104 : ((List α) × Int)) : Option (((List α) × Int) ⊕ (List α)) :=
  (if (decide (0 ≤ sv104.2)) = true then
    (ix sv104.1 (w64 (a6 + sv104.2))).bind fun x372 =>
    (ix sv104.1 a6).bind fun x385 =>
    (ix sv104.1 a6).bind fun x394 =>
    (setM sv104.1 a6 x372).bind fun l402 =>
    (ix l402 (w64 (a6 + sv104.2))).bind fun x407 =>
    (setM l402 (w64 (a6 + sv104.2)) x385).bind fun l415 =>
    (slices_siftDownCmpFunc_G l415 0 sv104.2 a6 cmp8).bind fun rv424 =>
    (some (w64 (sv104.2 - 1))).bind fun i436 =>
    some (Sum.inl (rv424, i436))
  else
    some (Sum.inr sv104.1))
noncomputable def slices_heapSortCmpFunc_G {α : Type} (data1 : (List α)) (a6 : Int) (b7 : Int) (cmp8 : α → α → Option Int) : Option (List α) :=
  (some (w64 (b7 - a6))).bind fun hi14 =>
  (some (w64 (Int.tdiv (w64 (hi14 - 1)) 2))).bind fun i16 =>
  (whileM (slices_heapSortCmpFunc_G_l1 a6 cmp8 hi14) (data1, i16)).bind fun e70 =>
  (some (w64 (hi14 - 1))).bind fun i103 =>
  (whileM (slices_heapSortCmpFunc_G_l2 a6 cmp8) (e70, i103)).bind fun e304 =>
  some e304

-- slices.order2CmpFunc
noncomputable def slices_order2CmpFunc_G {α : Type} (data1 : (List α)) (a5 : Int) (b6 : Int) (swaps7 : Int) (cmp9 : α → α → Option Int) : Option (Int × Int × Int) :=
  (ix data1 b6).bind fun x16 =>
  (ix data1 a5).bind fun x29 =>
  (cmp9 x16 x29).bind fun rv36 =>
  (if (decide (rv36 < 0)) = true then
    some (b6, a5, (w64 (swaps7 + 1)))
  else
    some (a5, b6, swaps7))

-- slices.medianCmpFunc
noncomputable def slices_medianCmpFunc_G {α : Type} (data1 : (List α)) (a5 : Int) (b6 : Int) (c7 : Int) (swaps8 : Int) (cmp10 : α → α → Option Int) : Option (Int × Int) :=
  (slices_order2CmpFunc_G data1 a5 b6 swaps8 cmp10).bind fun rv16 =>
  (slices_order2CmpFunc_G data1 rv16.2.1 c7 rv16.2.2 cmp10).bind fun rv23 =>
  (slices_order2CmpFunc_G data1 rv16.1 rv23.1 rv23.2.2 cmp10).bind fun rv30 =>
  some (rv30.2.1, rv30.2.2)

-- slices.medianAdjacentCmpFunc
noncomputable def slices_medianAdjacentCmpFunc_G {α : Type} (data1 : (List α)) (a5 : Int) (swaps6 : Int) (cmp8 : α → α → Option Int) : Option (Int × Int) :=
  (slices_medianCmpFunc_G data1 (w64 (a5 - 1)) a5 (w64 (a5 + 1)) swaps6 cmp8).bind fun rv14 =>
  some (rv14.1, rv14.2)

-- slices.choosePivotCmpFunc
noncomputable def slices_choosePivotCmpFunc_G_j1 (x57 : Int) (j58 : Int) : Option (Int × Int) :=
  (if (x57 == 0) = true then
    some (j58, 1)
  else
    (if (x57 == 12) = true then
      some (j58, 2)
    else
      some (j58, 0)))
noncomputable def slices_choosePivotCmpFunc_G_j2 {α : Type} (data1 : (List α)) (cmp7 : α → α → Option Int) (x90 : Int) (i91 : Int) (j92 : Int) (k93 : Int) : Option (Int × Int) :=
  (slices_medianCmpFunc_G data1 i91 j92 k93 x90 cmp7).bind fun rv95 =>
  slices_choosePivotCmpFunc_G_j1 rv95.2 rv95.1
noncomputable def slices_choosePivotCmpFunc_G {α : Type} (data1 : (List α)) (a5 : Int) (b6 : Int) (cmp7 : α → α → Option Int) : Option (Int × Int) :=
  (some (w64 (b6 - a5))).bind fun l13 =>
  (some (w64 (a5 + (w64 ((w64 (Int.tdiv l13 4)) * 1))))).bind fun i16 =>
  (some (w64 (a5 + (w64 ((w64 (Int.tdiv l13 4)) * 2))))).bind fun j18 =>
  (some (w64 (a5 + (w64 ((w64 (Int.tdiv l13 4)) * 3))))).bind fun k20 =>
  (if (decide (8 ≤ l13)) = true then
    (if (decide (50 ≤ l13)) = true then
      (slices_medianAdjacentCmpFunc_G data1 i16 0 cmp7).bind fun rv103 =>
      (slices_medianAdjacentCmpFunc_G data1 j18 rv103.2 cmp7).bind fun rv110 =>
      (slices_medianAdjacentCmpFunc_G data1 k20 rv110.2 cmp7).bind fun rv117 =>
      slices_choosePivotCmpFunc_G_j2 data1 cmp7 rv117.2 rv103.1 rv110.1 rv117.1
    else
      slices_choosePivotCmpFunc_G_j2 data1 cmp7 0 i16 j18 k20)
  else
    slices_choosePivotCmpFunc_G_j1 0 j18)

-- slices.reverseRangeCmpFunc
noncomputable def slices_reverseRangeCmpFunc_G_l1 {α : Type} (sv15 : ((List α) × Int × Int)) : Option (((List α) × Int × Int) ⊕ (List α)) :=
  (if (decide (sv15.2.1 < sv15.2.2)) = true then
    (ix sv15.1 sv15.2.2).bind fun x245 =>
    (ix sv15.1 sv15.2.1).bind fun x258 =>
    (ix sv15.1 sv15.2.1).bind fun x267 =>
    (setM sv15.1 sv15.2.1 x245).bind fun l275 =>
    (ix l275 sv15.2.2).bind fun x280 =>
    (setM l275 sv15.2.2 x258).bind fun l288 =>
    (some (w64 (sv15.2.1 + 1))).bind fun i297 =>
    (some (w64 (sv15.2.2 - 1))).bind fun j299 =>
    some (Sum.inl (l288, i297, j299))
  else
    some (Sum.inr sv15.1))
noncomputable def slices_reverseRangeCmpFunc_G {α : Type} (data1 : (List α)) (a6 : Int) (b7 : Int) (cmp8 : α → α → Option Int) : Option (List α) :=
  (some (w64 (b7 - 1))).bind fun j14 =>
  (whileM (slices_reverseRangeCmpFunc_G_l1) (data1, a6, j14)).bind fun e185 =>
  some e185

-- slices.partialInsertionSortCmpFunc
noncomputable def slices_partialInsertionSortCmpFunc_G_l24 {α : Type} (b7 : Int) (cmp8 : α → α → Option Int) (sv1831 : ((List α) × Int × Int)) (sv4251 : Int) : Option (Int ⊕ Int) :=
  (if (decide (sv4251 < b7)) = true then
    (ix sv1831.1 sv4251).bind fun x4348 =>
    (ix sv1831.1 (w64 (sv4251 - 1))).bind fun x4361 =>
    (cmp8 x4348 x4361).bind fun rv4369 =>
    some (!(decide (rv4369 < 0)))
  else
    some false).bind fun c4370 =>
  (if c4370 = true then
    (some (w64 (sv4251 + 1))).bind fun i4408 =>
    some (Sum.inl i4408)
  else
    some (Sum.inr sv4251))
noncomputable def slices_partialInsertionSortCmpFunc_G_j3 {α : Type} (sv1831 : ((List α) × Int × Int)) (e4344 : Int) (data4922 : (List α)) : Option (((List α) × Int × Int) ⊕ (Bool × (List α))) :=
  (some (w64 (sv1831.2.2 + 1))).bind fun j4924 =>
  some (Sum.inl (data4922, e4344, j4924))
noncomputable def slices_partialInsertionSortCmpFunc_G_l27 {α : Type} (b7 : Int) (cmp8 : α → α → Option Int) (sv4928 : ((List α) × Int)) : Option (((List α) × Int) ⊕ (List α)) :=
  (if (decide (sv4928.2 < b7)) = true then
    (ix sv4928.1 sv4928.2).bind fun x5220 =>
    (ix sv4928.1 (w64 (sv4928.2 - 1))).bind fun x5229 =>
    (cmp8 x5220 x5229).bind fun rv5237 =>
    (if (!(decide (rv5237 < 0))) = true then
      some (Sum.inr sv4928.1)
    else
      (ix sv4928.1 (w64 (sv4928.2 - 1))).bind fun x5248 =>
      (ix sv4928.1 sv4928.2).bind fun x5257 =>
      (ix sv4928.1 sv4928.2).bind fun x5266 =>
      (setM sv4928.1 sv4928.2 x5248).bind fun l5274 =>
      (ix l5274 (w64 (sv4928.2 - 1))).bind fun x5279 =>
      (setM l5274 (w64 (sv4928.2 - 1)) x5257).bind fun l5287 =>
      (some (w64 (sv4928.2 + 1))).bind fun j5296 =>
      some (Sum.inl (l5287, j5296)))
  else
    some (Sum.inr sv4928.1))
noncomputable def slices_partialInsertionSortCmpFunc_G_j2 {α : Type} (b7 : Int) (cmp8 : α → α → Option Int) (sv1831 : ((List α) × Int × Int)) (e4344 : Int) (data4695 : (List α)) : Option (((List α) × Int × Int) ⊕ (Bool × (List α))) :=
  (if (decide (2 ≤ (w64 (b7 - e4344)))) = true then
    (some (w64 (e4344 + 1))).bind fun j4927 =>
    (whileM (slices_partialInsertionSortCmpFunc_G_l27 b7 cmp8) (data4695, j4927)).bind fun e5146 =>
    slices_partialInsertionSortCmpFunc_G_j3 sv1831 e4344 e5146
  else
    slices_partialInsertionSortCmpFunc_G_j3 sv1831 e4344 data4695)
noncomputable def slices_partialInsertionSortCmpFunc_G_l28 {α : Type} (cmp8 : α → α → Option Int) (sv5302 : ((List α) × Int)) : Option (((List α) × Int) ⊕ (List α)) :=
  (if (decide (1 ≤ sv5302.2)) = true then
    (ix sv5302.1 sv5302.2).bind fun x5594 =>
    (ix sv5302.1 (w64 (sv5302.2 - 1))).bind fun x5603 =>
    (cmp8 x5594 x5603).bind fun rv5611 =>
    (if (!(decide (rv5611 < 0))) = true then
      some (Sum.inr sv5302.1)
    else
      (ix sv5302.1 (w64 (sv5302.2 - 1))).bind fun x5622 =>
      (ix sv5302.1 sv5302.2).bind fun x5631 =>
      (ix sv5302.1 sv5302.2).bind fun x5640 =>
      (setM sv5302.1 sv5302.2 x5622).bind fun l5648 =>
      (ix l5648 (w64 (sv5302.2 - 1))).bind fun x5653 =>
      (setM l5648 (w64 (sv5302.2 - 1)) x5631).bind fun l5661 =>
      (some (w64 (sv5302.2 - 1))).bind fun j5670 =>
      some (Sum.inl (l5661, j5670)))
  else
    some (Sum.inr sv5302.1))
noncomputable def slices_partialInsertionSortCmpFunc_G_l17 {α : Type} (a6 : Int) (b7 : Int) (cmp8 : α → α → Option Int) (sv1831 : ((List α) × Int × Int)) : Option (((List α) × Int × Int) ⊕ (Bool × (List α))) :=
  (if (decide (sv1831.2.2 < 5)) = true then
    (whileM (slices_partialInsertionSortCmpFunc_G_l24 b7 cmp8 sv1831) (sv1831.2.1)).bind fun e4344 =>
    (if (e4344 == b7) = true then
      some (Sum.inr (true, sv1831.1))
    else
      (if (decide ((w64 (b7 - a6)) < 50)) = true then
        some (Sum.inr (false, sv1831.1))
      else
        (ix sv1831.1 (w64 (e4344 - 1))).bind fun x4418 =>
        (ix sv1831.1 e4344).bind fun x4431 =>
        (ix sv1831.1 e4344).bind fun x4440 =>
        (setM sv1831.1 e4344 x4418).bind fun l4448 =>
        (ix l4448 (w64 (e4344 - 1))).bind fun x4453 =>
        (setM l4448 (w64 (e4344 - 1)) x4431).bind fun l4461 =>
        (if (decide (2 ≤ (w64 (e4344 - a6)))) = true then
          (some (w64 (e4344 - 1))).bind fun j5301 =>
          (whileM (slices_partialInsertionSortCmpFunc_G_l28 cmp8) (l4461, j5301)).bind fun e5520 =>
          slices_partialInsertionSortCmpFunc_G_j2 b7 cmp8 sv1831 e4344 e5520
        else
          slices_partialInsertionSortCmpFunc_G_j2 b7 cmp8 sv1831 e4344 l4461)))
  else
    Option.map Sum.inr (some (false, sv1831.1)))
noncomputable def slices_partialInsertionSortCmpFunc_G {α : Type} (data1 : (List α)) (a6 : Int) (b7 : Int) (cmp8 : α → α → Option Int) : Option (Bool × (List α)) :=
  (some (w64 (a6 + 1))).bind fun i14 =>
  whileM (slices_partialInsertionSortCmpFunc_G_l17 a6 b7 cmp8) (data1, i14, 0)

-- slices.partitionEqualCmpFunc
noncomputable def slices_partitionEqualCmpFunc_G_l10 {α : Type} (a6 : Int) (cmp9 : α → α → Option Int) (sv71 : ((List α) × Int × Int)) (sv946 : Int) : Option (Int ⊕ Int) :=
  (if (decide (sv946 ≤ sv71.2.2)) = true then
    (ix sv71.1 a6).bind fun x1031 =>
    (ix sv71.1 sv946).bind fun x1040 =>
    (cmp9 x1031 x1040).bind fun rv1048 =>
    some (!(decide (rv1048 < 0)))
  else
    some false).bind fun c1049 =>
  (if c1049 = true then
    (some (w64 (sv946 + 1))).bind fun i1083 =>
    some (Sum.inl i1083)
  else
    some (Sum.inr sv946))
noncomputable def slices_partitionEqualCmpFunc_G_l11 {α : Type} (a6 : Int) (cmp9 : α → α → Option Int) (sv71 : ((List α) × Int × Int)) (e1027 : Int) (sv1085 : Int) : Option (Int ⊕ Int) :=
  (if (decide (e1027 ≤ sv1085)) = true then
    (ix sv71.1 a6).bind fun x1170 =>
    (ix sv71.1 sv1085).bind fun x1179 =>
    (cmp9 x1170 x1179).bind fun rv1187 =>
    some (decide (rv1187 < 0))
  else
    some false).bind fun c1188 =>
  (if c1188 = true then
    (some (w64 (sv1085 - 1))).bind fun j1222 =>
    some (Sum.inl j1222)
  else
    some (Sum.inr sv1085))
noncomputable def slices_partitionEqualCmpFunc_G_l5 {α : Type} (a6 : Int) (cmp9 : α → α → Option Int) (sv71 : ((List α) × Int × Int)) : Option (((List α) × Int × Int) ⊕ (Int × (List α))) :=
  (whileM (slices_partitionEqualCmpFunc_G_l10 a6 cmp9 sv71) (sv71.2.1)).bind fun e1027 =>
  (whileM (slices_partitionEqualCmpFunc_G_l11 a6 cmp9 sv71 e1027) (sv71.2.2)).bind fun e1166 =>
  (if (decide (e1166 < e1027)) = true then
    some (Sum.inr (e1027, sv71.1))
  else
    (ix sv71.1 e1166).bind fun x1229 =>
    (ix sv71.1 e1027).bind fun x1238 =>
    (ix sv71.1 e1027).bind fun x1247 =>
    (setM sv71.1 e1027 x1229).bind fun l1255 =>
    (ix l1255 e1166).bind fun x1260 =>
    (setM l1255 e1166 x1238).bind fun l1268 =>
    (some (w64 (e1027 + 1))).bind fun i1277 =>
    (some (w64 (e1166 - 1))).bind fun j1279 =>
    some (Sum.inl (l1268, i1277, j1279)))
noncomputable def slices_partitionEqualCmpFunc_G {α : Type} (data1 : (List α)) (a6 : Int) (b7 : Int) (pivot8 : Int) (cmp9 : α → α → Option Int) : Option (Int × (List α)) :=
  (ix data1 pivot8).bind fun x16 =>
  (ix data1 a6).bind fun x29 =>
  (ix data1 a6).bind fun x38 =>
  (setM data1 a6 x16).bind fun l46 =>
  (ix l46 pivot8).bind fun x51 =>
  (setM l46 pivot8 x29).bind fun l59 =>
  (some (w64 (a6 + 1))).bind fun i68 =>
  (some (w64 (b7 - 1))).bind fun j70 =>
  (whileM (slices_partitionEqualCmpFunc_G_l5 a6 cmp9) (l59, i68, j70)).bind fun e727 =>
  some (e727.1, e727.2)

-- slices.partitionCmpFunc
noncomputable def slices_partitionCmpFunc_G_l1 {α : Type} (a6 : Int) (cmp9 : α → α → Option Int) (l59 : (List α)) (j70 : Int) (sv71 : Int) : Option (Int ⊕ Int) :=
  (if (decide (sv71 ≤ j70)) = true then
    (ix l59 sv71).bind fun x156 =>
    (ix l59 a6).bind fun x165 =>
    (cmp9 x156 x165).bind fun rv173 =>
    some (decide (rv173 < 0))
  else
    some false).bind fun c174 =>
  (if c174 = true then
    (some (w64 (sv71 + 1))).bind fun i208 =>
    some (Sum.inl i208)
  else
    some (Sum.inr sv71))
noncomputable def slices_partitionCmpFunc_G_l2 {α : Type} (a6 : Int) (cmp9 : α → α → Option Int) (l59 : (List α)) (e152 : Int) (sv210 : Int) : Option (Int ⊕ Int) :=
  (if (decide (e152 ≤ sv210)) = true then
    (ix l59 sv210).bind fun x295 =>
    (ix l59 a6).bind fun x304 =>
    (cmp9 x295 x304).bind fun rv312 =>
    some (!(decide (rv312 < 0)))
  else
    some false).bind fun c313 =>
  (if c313 = true then
    (some (w64 (sv210 - 1))).bind fun j347 =>
    some (Sum.inl j347)
  else
    some (Sum.inr sv210))
noncomputable def slices_partitionCmpFunc_G_l12 {α : Type} (a6 : Int) (cmp9 : α → α → Option Int) (sv498 : ((List α) × Int × Int)) (sv1373 : Int) : Option (Int ⊕ Int) :=
  (if (decide (sv1373 ≤ sv498.2.2)) = true then
    (ix sv498.1 sv1373).bind fun x1458 =>
    (ix sv498.1 a6).bind fun x1467 =>
    (cmp9 x1458 x1467).bind fun rv1475 =>
    some (decide (rv1475 < 0))
  else
    some false).bind fun c1476 =>
  (if c1476 = true then
    (some (w64 (sv1373 + 1))).bind fun i1510 =>
    some (Sum.inl i1510)
  else
    some (Sum.inr sv1373))
noncomputable def slices_partitionCmpFunc_G_l13 {α : Type} (a6 : Int) (cmp9 : α → α → Option Int) (sv498 : ((List α) × Int × Int)) (e1454 : Int) (sv1512 : Int) : Option (Int ⊕ Int) :=
  (if (decide (e1454 ≤ sv1512)) = true then
    (ix sv498.1 sv1512).bind fun x1597 =>
    (ix sv498.1 a6).bind fun x1606 =>
    (cmp9 x1597 x1606).bind fun rv1614 =>
    some (!(decide (rv1614 < 0)))
  else
    some false).bind fun c1615 =>
  (if c1615 = true then
    (some (w64 (sv1512 - 1))).bind fun j1649 =>
    some (Sum.inl j1649)
  else
    some (Sum.inr sv1512))
noncomputable def slices_partitionCmpFunc_G_l7 {α : Type} (a6 : Int) (cmp9 : α → α → Option Int) (sv498 : ((List α) × Int × Int)) : Option (((List α) × Int × Int) ⊕ ((List α) × Int)) :=
  (whileM (slices_partitionCmpFunc_G_l12 a6 cmp9 sv498) (sv498.2.1)).bind fun e1454 =>
  (whileM (slices_partitionCmpFunc_G_l13 a6 cmp9 sv498 e1454) (sv498.2.2)).bind fun e1593 =>
  (if (decide (e1593 < e1454)) = true then
    some (Sum.inr (sv498.1, e1593))
  else
    (ix sv498.1 e1593).bind fun x1656 =>
    (ix sv498.1 e1454).bind fun x1665 =>
    (ix sv498.1 e1454).bind fun x1674 =>
    (setM sv498.1 e1454 x1656).bind fun l1682 =>
    (ix l1682 e1593).bind fun x1687 =>
    (setM l1682 e1593 x1665).bind fun l1695 =>
    (some (w64 (e1454 + 1))).bind fun i1704 =>
    (some (w64 (e1593 - 1))).bind fun j1706 =>
    some (Sum.inl (l1695, i1704, j1706)))
noncomputable def slices_partitionCmpFunc_G {α : Type} (data1 : (List α)) (a6 : Int) (b7 : Int) (pivot8 : Int) (cmp9 : α → α → Option Int) : Option (Int × Bool × (List α)) :=
  (ix data1 pivot8).bind fun x16 =>
  (ix data1 a6).bind fun x29 =>
  (ix data1 a6).bind fun x38 =>
  (setM data1 a6 x16).bind fun l46 =>
  (ix l46 pivot8).bind fun x51 =>
  (setM l46 pivot8 x29).bind fun l59 =>
  (some (w64 (a6 + 1))).bind fun i68 =>
  (some (w64 (b7 - 1))).bind fun j70 =>
  (whileM (slices_partitionCmpFunc_G_l1 a6 cmp9 l59 j70) (i68)).bind fun e152 =>
  (whileM (slices_partitionCmpFunc_G_l2 a6 cmp9 l59 e152) (j70)).bind fun e291 =>
  (if (decide (e291 < e152)) = true then
    (ix l59 a6).bind fun x398 =>
    (ix l59 e291).bind fun x407 =>
    (ix l59 e291).bind fun x416 =>
    (setM l59 e291 x398).bind fun l424 =>
    (ix l424 a6).bind fun x429 =>
    (setM l424 a6 x407).bind fun l437 =>
    some (e291, true, l437)
  else
    (ix l59 e291).bind fun x447 =>
    (ix l59 e152).bind fun x456 =>
    (ix l59 e152).bind fun x465 =>
    (setM l59 e152 x447).bind fun l473 =>
    (ix l473 e291).bind fun x478 =>
    (setM l473 e291 x456).bind fun l486 =>
    (some (w64 (e152 + 1))).bind fun i495 =>
    (some (w64 (e291 - 1))).bind fun j497 =>
    (whileM (slices_partitionCmpFunc_G_l7 a6 cmp9) (l486, i495, j497)).bind fun e1154 =>
    (ix e1154.1 a6).bind fun x1711 =>
    (ix e1154.1 e1154.2).bind fun x1720 =>
    (ix e1154.1 e1154.2).bind fun x1729 =>
    (setM e1154.1 e1154.2 x1711).bind fun l1737 =>
    (ix l1737 a6).bind fun x1742 =>
    (setM l1737 a6 x1720).bind fun l1750 =>
    some (e1154.2, false, l1750))

-- slices.breakPatternsCmpFunc
noncomputable def slices_breakPatternsCmpFunc_G_j1 {α : Type} (x237 : (List α)) : Option (List α) :=
  some x237
noncomputable def slices_breakPatternsCmpFunc_G_j2 {α : Type} (a6 : Int) (sv249 : (Int × (List α) × Int)) (rv524 : (Int × Int)) (other536 : Int) : Option ((Int × (List α) × Int) ⊕ (List α)) :=
  (ix sv249.2.1 (w64 (a6 + other536))).bind fun x539 =>
  (ix sv249.2.1 sv249.2.2).bind fun x552 =>
  (ix sv249.2.1 sv249.2.2).bind fun x561 =>
  (setM sv249.2.1 sv249.2.2 x539).bind fun l569 =>
  (ix l569 (w64 (a6 + other536))).bind fun x574 =>
  (setM l569 (w64 (a6 + other536)) x552).bind fun l582 =>
  (some (w64 (sv249.2.2 + 1))).bind fun idx591 =>
  some (Sum.inl (rv524.2, l582, idx591))
noncomputable def slices_breakPatternsCmpFunc_G_l2 {α : Type} (a6 : Int) (length14 : Int) (rv241 : Int) (sv249 : (Int × (List α) × Int)) : Option ((Int × (List α) × Int) ⊕ (List α)) :=
  (if (decide (sv249.2.2 ≤ (w64 ((w64 (a6 + (w64 ((w64 (Int.tdiv length14 4)) * 2)))) + 1)))) = true then
    (slices_xorshift_Next sv249.1).bind fun rv524 =>
    (some (w64 (Go.bits .and .u64 rv524.1 (IntKind.u64.wrap (rv241 - 1))))).bind fun other531 =>
    (if (decide (length14 ≤ other531)) = true then
      (some (w64 (other531 - length14))).bind fun other594 =>
      slices_breakPatternsCmpFunc_G_j2 a6 sv249 rv524 other594
    else
      slices_breakPatternsCmpFunc_G_j2 a6 sv249 rv524 other531)
  else
    some (Sum.inr sv249.2.1))
noncomputable def slices_breakPatternsCmpFunc_G {α : Type} (data1 : (List α)) (a6 : Int) (b7 : Int) (cmp8 : α → α → Option Int) : Option (List α) :=
  (some (w64 (b7 - a6))).bind fun length14 =>
  (if (decide (8 ≤ length14)) = true then
    (slices_nextPowerOfTwo length14).bind fun rv241 =>
    (some (w64 ((w64 (a6 + (w64 ((w64 (Int.tdiv length14 4)) * 2)))) - 1))).bind fun idx248 =>
    (whileM (slices_breakPatternsCmpFunc_G_l2 a6 length14 rv241) ((IntKind.u64.wrap length14), data1, idx248)).bind fun e455 =>
    slices_breakPatternsCmpFunc_G_j1 e455
  else
    slices_breakPatternsCmpFunc_G_j1 data1)

-- slices.pdqsortCmpFunc
noncomputable def slices_pdqsortCmpFunc_G_j1 {α : Type} (data1719 : (List α)) (av1720 : Int) (b1721 : Int) (limit1722 : Int) (wasBalanced1723 : Bool) (wasPartitioned1724 : Bool) : Option (((List α) × Int × Int × Int × Bool × Bool) ⊕ (List α)) :=
  some (Sum.inl (data1719, av1720, b1721, limit1722, wasBalanced1723, wasPartitioned1724))
noncomputable def slices_pdqsortCmpFunc_G_j5 {α : Type} (limit1799 : Int) (rv1930 : (Int × Bool × (List α))) (data1976 : (List α)) (av1977 : Int) (b1978 : Int) (wasBalanced1979 : Bool) : Option (((List α) × Int × Int × Int × Bool × Bool) ⊕ (List α)) :=
  slices_pdqsortCmpFunc_G_j1 data1976 av1977 b1978 limit1799 wasBalanced1979 rv1930.2.1
noncomputable def slices_pdqsortCmpFunc_G_j4 {α : Type} (cmp9 : α → α → Option Int) (frec : (List α) → Int → Int → Int → (α → α → Option Int) → Option (List α)) (sv773 : ((List α) × Int × Int × Int × Bool × Bool)) (length1726 : Int) (limit1799 : Int) (pivot1825 : Int) (data1845 : (List α)) : Option (((List α) × Int × Int × Int × Bool × Bool) ⊕ (List α)) :=
  (if (decide (0 < sv773.2.1)) = true then
    (ix data1845 (w64 (sv773.2.1 - 1))).bind fun x1848 =>
    (ix data1845 pivot1825).bind fun x1861 =>
    (cmp9 x1848 x1861).bind fun rv1869 =>
    some (!(decide (rv1869 < 0)))
  else
    some false).bind fun c1870 =>
  (if c1870 = true then
    (slices_partitionEqualCmpFunc_G data1845 sv773.2.1 sv773.2.2.1 pivot1825 cmp9).bind fun rv1918 =>
    slices_pdqsortCmpFunc_G_j1 rv1918.2 rv1918.1 sv773.2.2.1 limit1799 sv773.2.2.2.2.1 sv773.2.2.2.2.2
  else
    (slices_partitionCmpFunc_G data1845 sv773.2.1 sv773.2.2.1 pivot1825 cmp9).bind fun rv1930 =>
    (some (w64 (rv1930.1 - sv773.2.1))).bind fun leftLen1942 =>
    (some (w64 (sv773.2.2.1 - rv1930.1))).bind fun rightLen1944 =>
    (some (w64 (Int.tdiv length1726 8))).bind fun balanceThreshold1946 =>
    (if (decide (leftLen1942 < rightLen1944)) = true then
      (frec rv1930.2.2 sv773.2.1 rv1930.1 limit1799 cmp9).bind fun rv1982 =>
      (some (w64 (rv1930.1 + 1))).bind fun av1994 =>
      slices_pdqsortCmpFunc_G_j5 limit1799 rv1930 rv1982 av1994 sv773.2.2.1 (decide (balanceThreshold1946 ≤ leftLen1942))
    else
      (frec rv1930.2.2 (w64 (rv1930.1 + 1)) sv773.2.2.1 limit1799 cmp9).bind fun rv1996 =>
      slices_pdqsortCmpFunc_G_j5 limit1799 rv1930 rv1996 sv773.2.1 rv1930.1 (decide (balanceThreshold1946 ≤ rightLen1944))))
noncomputable def slices_pdqsortCmpFunc_G_j3 {α : Type} (cmp9 : α → α → Option Int) (frec : (List α) → Int → Int → Int → (α → α → Option Int) → Option (List α)) (sv773 : ((List α) × Int × Int × Int × Bool × Bool)) (length1726 : Int) (limit1799 : Int) (data1824 : (List α)) (pivot1825 : Int) (hint1826 : Int) : Option (((List α) × Int × Int × Int × Bool × Bool) ⊕ (List α)) :=
  (if ((sv773.2.2.2.2.1 && sv773.2.2.2.2.2) && (hint1826 == 1)) = true then
    (slices_partialInsertionSortCmpFunc_G data1824 sv773.2.1 sv773.2.2.1 cmp9).bind fun rv2009 =>
    (if rv2009.1 = true then
      some (Sum.inr rv2009.2)
    else
      slices_pdqsortCmpFunc_G_j4 cmp9 frec sv773 length1726 limit1799 pivot1825 rv2009.2)
  else
    slices_pdqsortCmpFunc_G_j4 cmp9 frec sv773 length1726 limit1799 pivot1825 data1824)
noncomputable def slices_pdqsortCmpFunc_G_j2 {α : Type} (cmp9 : α → α → Option Int) (frec : (List α) → Int → Int → Int → (α → α → Option Int) → Option (List α)) (sv773 : ((List α) × Int × Int × Int × Bool × Bool)) (length1726 : Int) (data1798 : (List α)) (limit1799 : Int) : Option (((List α) × Int × Int × Int × Bool × Bool) ⊕ (List α)) :=
  (slices_choosePivotCmpFunc_G data1798 sv773.2.1 sv773.2.2.1 cmp9).bind fun rv1801 =>
  (if (rv1801.2 == 2) = true then
    (slices_reverseRangeCmpFunc_G data1798 sv773.2.1 sv773.2.2.1 cmp9).bind fun rv2027 =>
    (some (w64 ((w64 (sv773.2.2.1 - 1)) - (w64 (rv1801.1 - sv773.2.1))))).bind fun pivot2039 =>
    slices_pdqsortCmpFunc_G_j3 cmp9 frec sv773 length1726 limit1799 rv2027 pivot2039 1
  else
    slices_pdqsortCmpFunc_G_j3 cmp9 frec sv773 length1726 limit1799 data1798 rv1801.1 rv1801.2)
noncomputable def slices_pdqsortCmpFunc_G_l2 {α : Type} (cmp9 : α → α → Option Int) (frec : (List α) → Int → Int → Int → (α → α → Option Int) → Option (List α)) (sv773 : ((List α) × Int × Int × Int × Bool × Bool)) : Option (((List α) × Int × Int × Int × Bool × Bool) ⊕ (List α)) :=
  (some (w64 (sv773.2.2.1 - sv773.2.1))).bind fun length1726 =>
  (if (decide (length1726 ≤ 12)) = true then
    (slices_insertionSortCmpFunc_G sv773.1 sv773.2.1 sv773.2.2.1 cmp9).bind fun rv1742 =>
    some (Sum.inr rv1742)
  else
    (if (sv773.2.2.2.1 == 0) = true then
      (slices_heapSortCmpFunc_G sv773.1 sv773.2.1 sv773.2.2.1 cmp9).bind fun rv1769 =>
      some (Sum.inr rv1769)
    else
      (if (!sv773.2.2.2.2.1) = true then
        (slices_breakPatternsCmpFunc_G sv773.1 sv773.2.1 sv773.2.2.1 cmp9).bind fun rv2042 =>
        (some (w64 (sv773.2.2.2.1 - 1))).bind fun limit2054 =>
        slices_pdqsortCmpFunc_G_j2 cmp9 frec sv773 length1726 rv2042 limit2054
      else
        slices_pdqsortCmpFunc_G_j2 cmp9 frec sv773 length1726 sv773.1 sv773.2.2.2.1)))
noncomputable def slices_pdqsortCmpFunc_G_body {α : Type} (frec : (List α) → Int → Int → Int → (α → α → Option Int) → Option (List α)) (data1 : (List α)) (a6 : Int) (b7 : Int) (limit8 : Int) (cmp9 : α → α → Option Int) : Option (List α) :=
  whileM (slices_pdqsortCmpFunc_G_l2 cmp9 frec) (data1, a6, b7, limit8, true, true)
noncomputable def slices_pdqsortCmpFunc_G_n {α : Type} : Nat → (List α) → Int → Int → Int → (α → α → Option Int) → Option (List α)
  | 0 => fun _ _ _ _ _ => none
  | n + 1 => slices_pdqsortCmpFunc_G_body (slices_pdqsortCmpFunc_G_n n)
noncomputable def slices_pdqsortCmpFunc_G {α : Type} (data1 : (List α)) (a6 : Int) (b7 : Int) (limit8 : Int) (cmp9 : α → α → Option Int) : Option (List α) :=
  slices_pdqsortCmpFunc_G_n 200 data1 a6 b7 limit8 cmp9

-- slices.SortFunc
noncomputable def slices_SortFunc_G {α : Type} (x1 : (List α)) (cmp6 : α → α → Option Int) : Option (List α) :=
  (some (x1.length : Int)).bind fun n12 =>
  (math_bits_Len (IntKind.u64.wrap n12)).bind fun rv14 =>
  (slices_pdqsortCmpFunc_G x1 0 n12 rv14 cmp6).bind fun rv21 =>
  some rv21

end Go.Proofs.Ytiihddcppmjbaaa.Sh

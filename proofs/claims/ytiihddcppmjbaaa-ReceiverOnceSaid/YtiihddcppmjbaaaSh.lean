/- Each Go function as a plain program over lists and numbers (none: a panic, or no end). Printed by a program of ours out of the translation. -/
import Derived.Test.YtiihddcppmjbaaaShData
namespace Go.Proofs.Ytiihddcppmjbaaa.Sh
open Go
set_option linter.unusedVariables false

-- seismonet/seismonetmade.Light
noncomputable def made_Light (l1 : (List Int)) : Option Bool :=
  some (decide ((l1.length : Int) ≤ 500))

-- seismonet/receiver.New
noncomputable def receiver_New : Option Receiver :=
  some (⟨([] : List Span), ([] : List Span)⟩ : Receiver)

-- seismonet/span.some
noncomputable def span_some (s1 : Span) : Option Bool :=
  some (decide (s1.From < s1.To))

-- seismonet/span.Valid
noncomputable def span_Valid_l2 (l1 : (List Span)) (sv97 : Int) : Option (Int ⊕ Bool) :=
  (if (decide (sv97 < (l1.length : Int))) = true then
    (ix l1 sv97).bind fun x223 =>
    (span_some x223).bind fun rv236 =>
    (if (!rv236) = true then
      some true
    else
      (if (decide (0 < sv97)) = true then
        (ix l1 (w64 (sv97 - 1))).bind fun x239 =>
        some (decide (x223.From ≤ x239.To))
      else
        some false).bind fun c245 =>
      some c245).bind fun c246 =>
    (if c246 = true then
      some (Sum.inr false)
    else
      some (Sum.inl (w64 (sv97 + 1))))
  else
    Option.map Sum.inr (some true))
noncomputable def span_Valid (l1 : (List Span)) : Option Bool :=
  whileM (span_Valid_l2 l1) (0)

-- seismonet/receiver.set
noncomputable def receiver_set (l1 : (List Span)) : Option Bool :=
  (span_Valid l1).bind fun rv6 =>
  ((if rv6 = true then
    ((if ((l1.length : Int) == 0) = true then
      some true
    else
      (ix l1 0).bind fun x119 =>
      ((if (decide (0 ≤ x119.From)) = true then
        (ix l1 (w64 ((l1.length : Int) - 1))).bind fun x143 =>
        some (decide (x143.To ≤ 1073741825))
      else
        some false)).bind fun c139 =>
      some c139)).bind fun c115 =>
    some c115
  else
    some false)).bind fun c80 =>
  some c80

-- slices.Clone[[]seismonet/api.Span,seismonet/api.Span]
noncomputable def slices_Clone_Lapi_Span_api_Span (s1 : (List Span)) : Option (List Span) :=
  (appM 16 ([] : List Span) s1).bind fun l11 =>
  some l11

-- slices.IndexFunc[[]seismonet/api.Span,seismonet/api.Span]
noncomputable def slices_IndexFunc_Lapi_Span_api_Span_l2 (s1 : (List Span)) (f5 : Span → Option Bool) (sv78 : Int) : Option (Int ⊕ Int) :=
  (if (decide (sv78 < (s1.length : Int))) = true then
    (ix s1 sv78).bind fun x172 =>
    (f5 x172).bind fun rv184 =>
    (if rv184 = true then
      some (Sum.inr sv78)
    else
      some (Sum.inl (w64 (sv78 + 1))))
  else
    Option.map Sum.inr (some (-1)))
noncomputable def slices_IndexFunc_Lapi_Span_api_Span (s1 : (List Span)) (f5 : Span → Option Bool) : Option Int :=
  whileM (slices_IndexFunc_Lapi_Span_api_Span_l2 s1 f5) (0)

-- slices.DeleteFunc[[]seismonet/api.Span,seismonet/api.Span]
noncomputable def slices_DeleteFunc_Lapi_Span_api_Span_j1 (sv22 : ((List Span) × Int × Int)) (sv247 : (List Span)) (i248 : Int) : Option (((List Span) × Int × Int) ⊕ ((List Span) × Int)) :=
  (some (w64 (sv22.2.2 + 1))).bind fun j250 =>
  some (Sum.inl (sv247, i248, j250))
noncomputable def slices_DeleteFunc_Lapi_Span_api_Span_l1 (del6 : Span → Option Bool) (sv22 : ((List Span) × Int × Int)) : Option (((List Span) × Int × Int) ⊕ ((List Span) × Int)) :=
  (if (decide (sv22.2.2 < (sv22.1.length : Int))) = true then
    (ix sv22.1 sv22.2.2).bind fun x210 =>
    (del6 x210).bind fun rv223 =>
    (if (!rv223) = true then
      (ix sv22.1 sv22.2.1).bind fun x254 =>
      (setM sv22.1 sv22.2.1 x210).bind fun l262 =>
      (some (w64 (sv22.2.1 + 1))).bind fun i267 =>
      slices_DeleteFunc_Lapi_Span_api_Span_j1 sv22 l262 i267
    else
      slices_DeleteFunc_Lapi_Span_api_Span_j1 sv22 sv22.1 sv22.2.1)
  else
    some (Sum.inr (sv22.1, sv22.2.1)))
noncomputable def slices_DeleteFunc_Lapi_Span_api_Span (s1 : (List Span)) (del6 : Span → Option Bool) : Option (List Span) :=
  (slices_IndexFunc_Lapi_Span_api_Span s1 del6).bind fun rv12 =>
  (if (rv12 == (-1)) = true then
    some s1
  else
    (some (w64 (rv12 + 1))).bind fun j21 =>
    (whileM (slices_DeleteFunc_Lapi_Span_api_Span_l1 del6) (s1, rv12, j21)).bind fun e162 =>
    (subM e162.1 e162.2 (e162.1.length : Int)).bind fun l273 =>
    (some (copyM e162.1 e162.2 (e162.1.length : Int) (List.replicate l273.length ((⟨0, 0⟩ : Span) : Span)))).bind fun l274 =>
    (subM l274 0 e162.2).bind fun l283 =>
    some l283)

-- seismonet/span.Normal$1
noncomputable def span_Normal_fn1 (s1 : Span) : Option Bool :=
  (span_some s1).bind fun rv4 =>
  some (!rv4)

-- math/bits.Len64
noncomputable def math_bits_Len64_j3 (x22 : Int) (n23 : Int) : Option Int :=
  (byteAt (⟨#[0, 1, 2, 2, 3, 3, 3, 3, 4, 4, 4, 4, 4, 4, 4, 4, 5, 5, 5, 5, 5, 5, 5, 5, 5, 5, 5, 5, 5, 5, 5, 5, 6, 6, 6, 6, 6, 6, 6, 6, 6, 6, 6, 6, 6, 6, 6, 6, 6, 6, 6, 6, 6, 6, 6, 6, 6, 6, 6, 6, 6, 6, 6, 6, 7, 7, 7, 7, 7, 7, 7, 7, 7, 7, 7, 7, 7, 7, 7, 7, 7, 7, 7, 7, 7, 7, 7, 7, 7, 7, 7, 7, 7, 7, 7, 7, 7, 7, 7, 7, 7, 7, 7, 7, 7, 7, 7, 7, 7, 7, 7, 7, 7, 7, 7, 7, 7, 7, 7, 7, 7, 7, 7, 7, 7, 7, 7, 7, 8, 8, 8, 8, 8, 8, 8, 8, 8, 8, 8, 8, 8, 8, 8, 8, 8, 8, 8, 8, 8, 8, 8, 8, 8, 8, 8, 8, 8, 8, 8, 8, 8, 8, 8, 8, 8, 8, 8, 8, 8, 8, 8, 8, 8, 8, 8, 8, 8, 8, 8, 8, 8, 8, 8, 8, 8, 8, 8, 8, 8, 8, 8, 8, 8, 8, 8, 8, 8, 8, 8, 8, 8, 8, 8, 8, 8, 8, 8, 8, 8, 8, 8, 8, 8, 8, 8, 8, 8, 8, 8, 8, 8, 8, 8, 8, 8, 8, 8, 8, 8, 8, 8, 8, 8, 8, 8, 8, 8, 8, 8, 8, 8, 8, 8, 8, 8, 8, 8, 8, 8, 8, 8, 8, 8, 8, 8, 8]⟩ : ByteArray) (IntKind.u8.wrap x22)).bind fun c25 =>
  (some (w64 (n23 + (w64 c25)))).bind fun n27 =>
  some n27
noncomputable def math_bits_Len64_j2 (x14 : Int) (n15 : Int) : Option Int :=
  (if (decide (256 ≤ x14)) = true then
    (shrM .u64 x14 8).bind fun shr30 =>
    (some (w64 (n15 + 8))).bind fun n32 =>
    math_bits_Len64_j3 shr30 n32
  else
    math_bits_Len64_j3 x14 n15)
noncomputable def math_bits_Len64_j1 (x6 : Int) (n7 : Int) : Option Int :=
  (if (decide (65536 ≤ x6)) = true then
    (shrM .u64 x6 16).bind fun shr35 =>
    (some (w64 (n7 + 16))).bind fun n37 =>
    math_bits_Len64_j2 shr35 n37
  else
    math_bits_Len64_j2 x6 n7)
noncomputable def math_bits_Len64 (x1 : Int) : Option Int :=
  (if (decide (4294967296 ≤ x1)) = true then
    (shrM .u64 x1 32).bind fun shr40 =>
    math_bits_Len64_j1 shr40 32
  else
    math_bits_Len64_j1 x1 0)

-- math/bits.Len
noncomputable def math_bits_Len (x1 : Int) : Option Int :=
  (math_bits_Len64 x1).bind fun rv3 =>
  some rv3

-- slices.insertionSortCmpFunc[seismonet/api.Span]
noncomputable def slices_insertionSortCmpFunc_api_Span_l6 (a6 : Int) (cmp8 : Span → Span → Option Int) (sv1017 : ((List Span) × Int)) : Option (((List Span) × Int) ⊕ (List Span)) :=
  (if (decide (a6 < sv1017.2)) = true then
    (ix sv1017.1 sv1017.2).bind fun x1264 =>
    (ix sv1017.1 (w64 (sv1017.2 - 1))).bind fun x1277 =>
    (cmp8 x1264 x1277).bind fun rv1285 =>
    some (decide (rv1285 < 0))
  else
    some false).bind fun c1286 =>
  (if c1286 = true then
    (ix sv1017.1 (w64 (sv1017.2 - 1))).bind fun x1372 =>
    (ix sv1017.1 sv1017.2).bind fun x1385 =>
    (ix sv1017.1 sv1017.2).bind fun x1394 =>
    (setM sv1017.1 sv1017.2 x1372).bind fun l1402 =>
    (ix l1402 (w64 (sv1017.2 - 1))).bind fun x1407 =>
    (setM l1402 (w64 (sv1017.2 - 1)) x1385).bind fun l1415 =>
    (some (w64 (sv1017.2 - 1))).bind fun j1424 =>
    some (Sum.inl (l1415, j1424))
  else
    some (Sum.inr sv1017.1))
noncomputable def slices_insertionSortCmpFunc_api_Span_l3 (a6 : Int) (b7 : Int) (cmp8 : Span → Span → Option Int) (sv15 : ((List Span) × Int)) : Option (((List Span) × Int) ⊕ (List Span)) :=
  (if (decide (sv15.2 < b7)) = true then
    (whileM (slices_insertionSortCmpFunc_api_Span_l6 a6 cmp8) (sv15.1, sv15.2)).bind fun e1259 =>
    (some (w64 (sv15.2 + 1))).bind fun i1427 =>
    some (Sum.inl (e1259, i1427))
  else
    some (Sum.inr sv15.1))
noncomputable def slices_insertionSortCmpFunc_api_Span (data1 : (List Span)) (a6 : Int) (b7 : Int) (cmp8 : Span → Span → Option Int) : Option (List Span) :=
  (some (w64 (a6 + 1))).bind fun i14 =>
  (whileM (slices_insertionSortCmpFunc_api_Span_l3 a6 b7 cmp8) (data1, i14)).bind fun e767 =>
  some e767

-- slices.siftDownCmpFunc[seismonet/api.Span]
noncomputable def slices_siftDownCmpFunc_api_Span_j1 (first8 : Int) (cmp9 : Span → Span → Option Int) (sv336 : ((List Span) × Int)) (child834 : Int) : Option (((List Span) × Int) ⊕ (List Span)) :=
  (ix sv336.1 (w64 (first8 + sv336.2))).bind fun x837 =>
  (ix sv336.1 (w64 (first8 + child834))).bind fun x850 =>
  (cmp9 x837 x850).bind fun rv858 =>
  (if (!(decide (rv858 < 0))) = true then
    some (Sum.inr sv336.1)
  else
    (ix sv336.1 (w64 (first8 + child834))).bind fun x869 =>
    (ix sv336.1 (w64 (first8 + sv336.2))).bind fun x878 =>
    (ix sv336.1 (w64 (first8 + sv336.2))).bind fun x887 =>
    (setM sv336.1 (w64 (first8 + sv336.2)) x869).bind fun l895 =>
    (ix l895 (w64 (first8 + child834))).bind fun x900 =>
    (setM l895 (w64 (first8 + child834)) x878).bind fun l908 =>
    some (Sum.inl (l908, child834)))
noncomputable def slices_siftDownCmpFunc_api_Span_l2 (hi7 : Int) (first8 : Int) (cmp9 : Span → Span → Option Int) (sv336 : ((List Span) × Int)) : Option (((List Span) × Int) ⊕ (List Span)) :=
  (some (w64 ((w64 (2 * sv336.2)) + 1))).bind fun child766 =>
  (if (decide (hi7 ≤ child766)) = true then
    Option.map Sum.inr (some sv336.1)
  else
    (if (decide ((w64 (child766 + 1)) < hi7)) = true then
      (ix sv336.1 (w64 (first8 + child766))).bind fun x775 =>
      (ix sv336.1 (w64 ((w64 (first8 + child766)) + 1))).bind fun x788 =>
      (cmp9 x775 x788).bind fun rv796 =>
      some (decide (rv796 < 0))
    else
      some false).bind fun c797 =>
    (if c797 = true then
      (some (w64 (child766 + 1))).bind fun child918 =>
      slices_siftDownCmpFunc_api_Span_j1 first8 cmp9 sv336 child918
    else
      slices_siftDownCmpFunc_api_Span_j1 first8 cmp9 sv336 child766))
noncomputable def slices_siftDownCmpFunc_api_Span (data1 : (List Span)) (lo6 : Int) (hi7 : Int) (first8 : Int) (cmp9 : Span → Span → Option Int) : Option (List Span) :=
  whileM (slices_siftDownCmpFunc_api_Span_l2 hi7 first8 cmp9) (data1, lo6)

-- slices.heapSortCmpFunc[seismonet/api.Span]
noncomputable def slices_heapSortCmpFunc_api_Span_l1 (a6 : Int) (cmp8 : Span → Span → Option Int) (hi14 : Int) (sv17 : ((List Span) × Int)) : Option (((List Span) × Int) ⊕ (List Span)) :=
  (if (decide (0 ≤ sv17.2)) = true then
    (slices_siftDownCmpFunc_api_Span sv17.1 sv17.2 hi14 a6 cmp8).bind fun rv88 =>
    (some (w64 (sv17.2 - 1))).bind fun i100 =>
    some (Sum.inl (rv88, i100))
  else
    some (Sum.inr sv17.1))
noncomputable def slices_heapSortCmpFunc_api_Span_l2 (a6 : Int) (cmp8 : Span → Span → Option Int) (sv104 : ((List Span) × Int)) : Option (((List Span) × Int) ⊕ (List Span)) :=
  (if (decide (0 ≤ sv104.2)) = true then
    (ix sv104.1 (w64 (a6 + sv104.2))).bind fun x372 =>
    (ix sv104.1 a6).bind fun x385 =>
    (ix sv104.1 a6).bind fun x394 =>
    (setM sv104.1 a6 x372).bind fun l402 =>
    (ix l402 (w64 (a6 + sv104.2))).bind fun x407 =>
    (setM l402 (w64 (a6 + sv104.2)) x385).bind fun l415 =>
    (slices_siftDownCmpFunc_api_Span l415 0 sv104.2 a6 cmp8).bind fun rv424 =>
    (some (w64 (sv104.2 - 1))).bind fun i436 =>
    some (Sum.inl (rv424, i436))
  else
    some (Sum.inr sv104.1))
noncomputable def slices_heapSortCmpFunc_api_Span (data1 : (List Span)) (a6 : Int) (b7 : Int) (cmp8 : Span → Span → Option Int) : Option (List Span) :=
  (some (w64 (b7 - a6))).bind fun hi14 =>
  (some (w64 (Int.tdiv (w64 (hi14 - 1)) 2))).bind fun i16 =>
  (whileM (slices_heapSortCmpFunc_api_Span_l1 a6 cmp8 hi14) (data1, i16)).bind fun e70 =>
  (some (w64 (hi14 - 1))).bind fun i103 =>
  (whileM (slices_heapSortCmpFunc_api_Span_l2 a6 cmp8) (e70, i103)).bind fun e304 =>
  some e304

-- slices.order2CmpFunc[seismonet/api.Span]
noncomputable def slices_order2CmpFunc_api_Span (data1 : (List Span)) (a5 : Int) (b6 : Int) (swaps7 : Int) (cmp9 : Span → Span → Option Int) : Option (Int × Int × Int) :=
  (ix data1 b6).bind fun x16 =>
  (ix data1 a5).bind fun x29 =>
  (cmp9 x16 x29).bind fun rv36 =>
  (if (decide (rv36 < 0)) = true then
    some (b6, a5, (w64 (swaps7 + 1)))
  else
    some (a5, b6, swaps7))

-- slices.medianCmpFunc[seismonet/api.Span]
noncomputable def slices_medianCmpFunc_api_Span (data1 : (List Span)) (a5 : Int) (b6 : Int) (c7 : Int) (swaps8 : Int) (cmp10 : Span → Span → Option Int) : Option (Int × Int) :=
  (slices_order2CmpFunc_api_Span data1 a5 b6 swaps8 cmp10).bind fun rv16 =>
  (slices_order2CmpFunc_api_Span data1 rv16.2.1 c7 rv16.2.2 cmp10).bind fun rv23 =>
  (slices_order2CmpFunc_api_Span data1 rv16.1 rv23.1 rv23.2.2 cmp10).bind fun rv30 =>
  some (rv30.2.1, rv30.2.2)

-- slices.medianAdjacentCmpFunc[seismonet/api.Span]
noncomputable def slices_medianAdjacentCmpFunc_api_Span (data1 : (List Span)) (a5 : Int) (swaps6 : Int) (cmp8 : Span → Span → Option Int) : Option (Int × Int) :=
  (slices_medianCmpFunc_api_Span data1 (w64 (a5 - 1)) a5 (w64 (a5 + 1)) swaps6 cmp8).bind fun rv14 =>
  some (rv14.1, rv14.2)

-- slices.choosePivotCmpFunc[seismonet/api.Span]
noncomputable def slices_choosePivotCmpFunc_api_Span_j1 (x57 : Int) (j58 : Int) : Option (Int × Int) :=
  (if (x57 == 0) = true then
    some (j58, 1)
  else
    (if (x57 == 12) = true then
      some (j58, 2)
    else
      some (j58, 0)))
noncomputable def slices_choosePivotCmpFunc_api_Span_j2 (data1 : (List Span)) (cmp7 : Span → Span → Option Int) (x90 : Int) (i91 : Int) (j92 : Int) (k93 : Int) : Option (Int × Int) :=
  (slices_medianCmpFunc_api_Span data1 i91 j92 k93 x90 cmp7).bind fun rv95 =>
  slices_choosePivotCmpFunc_api_Span_j1 rv95.2 rv95.1
noncomputable def slices_choosePivotCmpFunc_api_Span (data1 : (List Span)) (a5 : Int) (b6 : Int) (cmp7 : Span → Span → Option Int) : Option (Int × Int) :=
  (some (w64 (b6 - a5))).bind fun l13 =>
  (some (w64 (a5 + (w64 ((w64 (Int.tdiv l13 4)) * 1))))).bind fun i16 =>
  (some (w64 (a5 + (w64 ((w64 (Int.tdiv l13 4)) * 2))))).bind fun j18 =>
  (some (w64 (a5 + (w64 ((w64 (Int.tdiv l13 4)) * 3))))).bind fun k20 =>
  (if (decide (8 ≤ l13)) = true then
    (if (decide (50 ≤ l13)) = true then
      (slices_medianAdjacentCmpFunc_api_Span data1 i16 0 cmp7).bind fun rv103 =>
      (slices_medianAdjacentCmpFunc_api_Span data1 j18 rv103.2 cmp7).bind fun rv110 =>
      (slices_medianAdjacentCmpFunc_api_Span data1 k20 rv110.2 cmp7).bind fun rv117 =>
      slices_choosePivotCmpFunc_api_Span_j2 data1 cmp7 rv117.2 rv103.1 rv110.1 rv117.1
    else
      slices_choosePivotCmpFunc_api_Span_j2 data1 cmp7 0 i16 j18 k20)
  else
    slices_choosePivotCmpFunc_api_Span_j1 0 j18)

-- slices.reverseRangeCmpFunc[seismonet/api.Span]
noncomputable def slices_reverseRangeCmpFunc_api_Span_l1 (sv15 : ((List Span) × Int × Int)) : Option (((List Span) × Int × Int) ⊕ (List Span)) :=
  (if (decide (sv15.2.1 < sv15.2.2)) = true then
    (ix sv15.1 sv15.2.2).bind fun x245 =>
    (ix sv15.1 sv15.2.1).bind fun x258 =>
    (ix sv15.1 sv15.2.1).bind fun x267 =>
    (setM sv15.1 sv15.2.1 x245).bind fun l275 =>
    (ix l275 sv15.2.2).bind fun x280 =>
    (setM l275 sv15.2.2 x258).bind fun l288 =>
    (some (w64 (sv15.2.1 + 1))).bind fun i297 =>
    (some (w64 (sv15.2.2 - 1))).bind fun j299 =>
    some (Sum.inl (l288, i297, j299))
  else
    some (Sum.inr sv15.1))
noncomputable def slices_reverseRangeCmpFunc_api_Span (data1 : (List Span)) (a6 : Int) (b7 : Int) (cmp8 : Span → Span → Option Int) : Option (List Span) :=
  (some (w64 (b7 - 1))).bind fun j14 =>
  (whileM (slices_reverseRangeCmpFunc_api_Span_l1) (data1, a6, j14)).bind fun e185 =>
  some e185

-- slices.partialInsertionSortCmpFunc[seismonet/api.Span]
noncomputable def slices_partialInsertionSortCmpFunc_api_Span_l24 (b7 : Int) (cmp8 : Span → Span → Option Int) (sv1831 : ((List Span) × Int × Int)) (sv4251 : Int) : Option (Int ⊕ Int) :=
  (if (decide (sv4251 < b7)) = true then
    (ix sv1831.1 sv4251).bind fun x4348 =>
    (ix sv1831.1 (w64 (sv4251 - 1))).bind fun x4361 =>
    (cmp8 x4348 x4361).bind fun rv4369 =>
    some (!(decide (rv4369 < 0)))
  else
    some false).bind fun c4370 =>
  (if c4370 = true then
    (some (w64 (sv4251 + 1))).bind fun i4408 =>
    some (Sum.inl i4408)
  else
    some (Sum.inr sv4251))
noncomputable def slices_partialInsertionSortCmpFunc_api_Span_j3 (sv1831 : ((List Span) × Int × Int)) (e4344 : Int) (data4922 : (List Span)) : Option (((List Span) × Int × Int) ⊕ (Bool × (List Span))) :=
  (some (w64 (sv1831.2.2 + 1))).bind fun j4924 =>
  some (Sum.inl (data4922, e4344, j4924))
noncomputable def slices_partialInsertionSortCmpFunc_api_Span_l27 (b7 : Int) (cmp8 : Span → Span → Option Int) (sv4928 : ((List Span) × Int)) : Option (((List Span) × Int) ⊕ (List Span)) :=
  (if (decide (sv4928.2 < b7)) = true then
    (ix sv4928.1 sv4928.2).bind fun x5220 =>
    (ix sv4928.1 (w64 (sv4928.2 - 1))).bind fun x5229 =>
    (cmp8 x5220 x5229).bind fun rv5237 =>
    (if (!(decide (rv5237 < 0))) = true then
      some (Sum.inr sv4928.1)
    else
      (ix sv4928.1 (w64 (sv4928.2 - 1))).bind fun x5248 =>
      (ix sv4928.1 sv4928.2).bind fun x5257 =>
      (ix sv4928.1 sv4928.2).bind fun x5266 =>
      (setM sv4928.1 sv4928.2 x5248).bind fun l5274 =>
      (ix l5274 (w64 (sv4928.2 - 1))).bind fun x5279 =>
      (setM l5274 (w64 (sv4928.2 - 1)) x5257).bind fun l5287 =>
      (some (w64 (sv4928.2 + 1))).bind fun j5296 =>
      some (Sum.inl (l5287, j5296)))
  else
    some (Sum.inr sv4928.1))
noncomputable def slices_partialInsertionSortCmpFunc_api_Span_j2 (b7 : Int) (cmp8 : Span → Span → Option Int) (sv1831 : ((List Span) × Int × Int)) (e4344 : Int) (data4695 : (List Span)) : Option (((List Span) × Int × Int) ⊕ (Bool × (List Span))) :=
  (if (decide (2 ≤ (w64 (b7 - e4344)))) = true then
    (some (w64 (e4344 + 1))).bind fun j4927 =>
    (whileM (slices_partialInsertionSortCmpFunc_api_Span_l27 b7 cmp8) (data4695, j4927)).bind fun e5146 =>
    slices_partialInsertionSortCmpFunc_api_Span_j3 sv1831 e4344 e5146
  else
    slices_partialInsertionSortCmpFunc_api_Span_j3 sv1831 e4344 data4695)
noncomputable def slices_partialInsertionSortCmpFunc_api_Span_l28 (cmp8 : Span → Span → Option Int) (sv5302 : ((List Span) × Int)) : Option (((List Span) × Int) ⊕ (List Span)) :=
  (if (decide (1 ≤ sv5302.2)) = true then
    (ix sv5302.1 sv5302.2).bind fun x5594 =>
    (ix sv5302.1 (w64 (sv5302.2 - 1))).bind fun x5603 =>
    (cmp8 x5594 x5603).bind fun rv5611 =>
    (if (!(decide (rv5611 < 0))) = true then
      some (Sum.inr sv5302.1)
    else
      (ix sv5302.1 (w64 (sv5302.2 - 1))).bind fun x5622 =>
      (ix sv5302.1 sv5302.2).bind fun x5631 =>
      (ix sv5302.1 sv5302.2).bind fun x5640 =>
      (setM sv5302.1 sv5302.2 x5622).bind fun l5648 =>
      (ix l5648 (w64 (sv5302.2 - 1))).bind fun x5653 =>
      (setM l5648 (w64 (sv5302.2 - 1)) x5631).bind fun l5661 =>
      (some (w64 (sv5302.2 - 1))).bind fun j5670 =>
      some (Sum.inl (l5661, j5670)))
  else
    some (Sum.inr sv5302.1))
noncomputable def slices_partialInsertionSortCmpFunc_api_Span_l17 (a6 : Int) (b7 : Int) (cmp8 : Span → Span → Option Int) (sv1831 : ((List Span) × Int × Int)) : Option (((List Span) × Int × Int) ⊕ (Bool × (List Span))) :=
  (if (decide (sv1831.2.2 < 5)) = true then
    (whileM (slices_partialInsertionSortCmpFunc_api_Span_l24 b7 cmp8 sv1831) (sv1831.2.1)).bind fun e4344 =>
    (if (e4344 == b7) = true then
      some (Sum.inr (true, sv1831.1))
    else
      (if (decide ((w64 (b7 - a6)) < 50)) = true then
        some (Sum.inr (false, sv1831.1))
      else
        (ix sv1831.1 (w64 (e4344 - 1))).bind fun x4418 =>
        (ix sv1831.1 e4344).bind fun x4431 =>
        (ix sv1831.1 e4344).bind fun x4440 =>
        (setM sv1831.1 e4344 x4418).bind fun l4448 =>
        (ix l4448 (w64 (e4344 - 1))).bind fun x4453 =>
        (setM l4448 (w64 (e4344 - 1)) x4431).bind fun l4461 =>
        (if (decide (2 ≤ (w64 (e4344 - a6)))) = true then
          (some (w64 (e4344 - 1))).bind fun j5301 =>
          (whileM (slices_partialInsertionSortCmpFunc_api_Span_l28 cmp8) (l4461, j5301)).bind fun e5520 =>
          slices_partialInsertionSortCmpFunc_api_Span_j2 b7 cmp8 sv1831 e4344 e5520
        else
          slices_partialInsertionSortCmpFunc_api_Span_j2 b7 cmp8 sv1831 e4344 l4461)))
  else
    Option.map Sum.inr (some (false, sv1831.1)))
noncomputable def slices_partialInsertionSortCmpFunc_api_Span (data1 : (List Span)) (a6 : Int) (b7 : Int) (cmp8 : Span → Span → Option Int) : Option (Bool × (List Span)) :=
  (some (w64 (a6 + 1))).bind fun i14 =>
  whileM (slices_partialInsertionSortCmpFunc_api_Span_l17 a6 b7 cmp8) (data1, i14, 0)

-- slices.partitionEqualCmpFunc[seismonet/api.Span]
noncomputable def slices_partitionEqualCmpFunc_api_Span_l10 (a6 : Int) (cmp9 : Span → Span → Option Int) (sv71 : ((List Span) × Int × Int)) (sv946 : Int) : Option (Int ⊕ Int) :=
  (if (decide (sv946 ≤ sv71.2.2)) = true then
    (ix sv71.1 a6).bind fun x1031 =>
    (ix sv71.1 sv946).bind fun x1040 =>
    (cmp9 x1031 x1040).bind fun rv1048 =>
    some (!(decide (rv1048 < 0)))
  else
    some false).bind fun c1049 =>
  (if c1049 = true then
    (some (w64 (sv946 + 1))).bind fun i1083 =>
    some (Sum.inl i1083)
  else
    some (Sum.inr sv946))
noncomputable def slices_partitionEqualCmpFunc_api_Span_l11 (a6 : Int) (cmp9 : Span → Span → Option Int) (sv71 : ((List Span) × Int × Int)) (e1027 : Int) (sv1085 : Int) : Option (Int ⊕ Int) :=
  (if (decide (e1027 ≤ sv1085)) = true then
    (ix sv71.1 a6).bind fun x1170 =>
    (ix sv71.1 sv1085).bind fun x1179 =>
    (cmp9 x1170 x1179).bind fun rv1187 =>
    some (decide (rv1187 < 0))
  else
    some false).bind fun c1188 =>
  (if c1188 = true then
    (some (w64 (sv1085 - 1))).bind fun j1222 =>
    some (Sum.inl j1222)
  else
    some (Sum.inr sv1085))
noncomputable def slices_partitionEqualCmpFunc_api_Span_l5 (a6 : Int) (cmp9 : Span → Span → Option Int) (sv71 : ((List Span) × Int × Int)) : Option (((List Span) × Int × Int) ⊕ (Int × (List Span))) :=
  (whileM (slices_partitionEqualCmpFunc_api_Span_l10 a6 cmp9 sv71) (sv71.2.1)).bind fun e1027 =>
  (whileM (slices_partitionEqualCmpFunc_api_Span_l11 a6 cmp9 sv71 e1027) (sv71.2.2)).bind fun e1166 =>
  (if (decide (e1166 < e1027)) = true then
    some (Sum.inr (e1027, sv71.1))
  else
    (ix sv71.1 e1166).bind fun x1229 =>
    (ix sv71.1 e1027).bind fun x1238 =>
    (ix sv71.1 e1027).bind fun x1247 =>
    (setM sv71.1 e1027 x1229).bind fun l1255 =>
    (ix l1255 e1166).bind fun x1260 =>
    (setM l1255 e1166 x1238).bind fun l1268 =>
    (some (w64 (e1027 + 1))).bind fun i1277 =>
    (some (w64 (e1166 - 1))).bind fun j1279 =>
    some (Sum.inl (l1268, i1277, j1279)))
noncomputable def slices_partitionEqualCmpFunc_api_Span (data1 : (List Span)) (a6 : Int) (b7 : Int) (pivot8 : Int) (cmp9 : Span → Span → Option Int) : Option (Int × (List Span)) :=
  (ix data1 pivot8).bind fun x16 =>
  (ix data1 a6).bind fun x29 =>
  (ix data1 a6).bind fun x38 =>
  (setM data1 a6 x16).bind fun l46 =>
  (ix l46 pivot8).bind fun x51 =>
  (setM l46 pivot8 x29).bind fun l59 =>
  (some (w64 (a6 + 1))).bind fun i68 =>
  (some (w64 (b7 - 1))).bind fun j70 =>
  (whileM (slices_partitionEqualCmpFunc_api_Span_l5 a6 cmp9) (l59, i68, j70)).bind fun e727 =>
  some (e727.1, e727.2)

-- slices.partitionCmpFunc[seismonet/api.Span]
noncomputable def slices_partitionCmpFunc_api_Span_l1 (a6 : Int) (cmp9 : Span → Span → Option Int) (l59 : (List Span)) (j70 : Int) (sv71 : Int) : Option (Int ⊕ Int) :=
  (if (decide (sv71 ≤ j70)) = true then
    (ix l59 sv71).bind fun x156 =>
    (ix l59 a6).bind fun x165 =>
    (cmp9 x156 x165).bind fun rv173 =>
    some (decide (rv173 < 0))
  else
    some false).bind fun c174 =>
  (if c174 = true then
    (some (w64 (sv71 + 1))).bind fun i208 =>
    some (Sum.inl i208)
  else
    some (Sum.inr sv71))
noncomputable def slices_partitionCmpFunc_api_Span_l2 (a6 : Int) (cmp9 : Span → Span → Option Int) (l59 : (List Span)) (e152 : Int) (sv210 : Int) : Option (Int ⊕ Int) :=
  (if (decide (e152 ≤ sv210)) = true then
    (ix l59 sv210).bind fun x295 =>
    (ix l59 a6).bind fun x304 =>
    (cmp9 x295 x304).bind fun rv312 =>
    some (!(decide (rv312 < 0)))
  else
    some false).bind fun c313 =>
  (if c313 = true then
    (some (w64 (sv210 - 1))).bind fun j347 =>
    some (Sum.inl j347)
  else
    some (Sum.inr sv210))
noncomputable def slices_partitionCmpFunc_api_Span_l12 (a6 : Int) (cmp9 : Span → Span → Option Int) (sv498 : ((List Span) × Int × Int)) (sv1373 : Int) : Option (Int ⊕ Int) :=
  (if (decide (sv1373 ≤ sv498.2.2)) = true then
    (ix sv498.1 sv1373).bind fun x1458 =>
    (ix sv498.1 a6).bind fun x1467 =>
    (cmp9 x1458 x1467).bind fun rv1475 =>
    some (decide (rv1475 < 0))
  else
    some false).bind fun c1476 =>
  (if c1476 = true then
    (some (w64 (sv1373 + 1))).bind fun i1510 =>
    some (Sum.inl i1510)
  else
    some (Sum.inr sv1373))
noncomputable def slices_partitionCmpFunc_api_Span_l13 (a6 : Int) (cmp9 : Span → Span → Option Int) (sv498 : ((List Span) × Int × Int)) (e1454 : Int) (sv1512 : Int) : Option (Int ⊕ Int) :=
  (if (decide (e1454 ≤ sv1512)) = true then
    (ix sv498.1 sv1512).bind fun x1597 =>
    (ix sv498.1 a6).bind fun x1606 =>
    (cmp9 x1597 x1606).bind fun rv1614 =>
    some (!(decide (rv1614 < 0)))
  else
    some false).bind fun c1615 =>
  (if c1615 = true then
    (some (w64 (sv1512 - 1))).bind fun j1649 =>
    some (Sum.inl j1649)
  else
    some (Sum.inr sv1512))
noncomputable def slices_partitionCmpFunc_api_Span_l7 (a6 : Int) (cmp9 : Span → Span → Option Int) (sv498 : ((List Span) × Int × Int)) : Option (((List Span) × Int × Int) ⊕ ((List Span) × Int)) :=
  (whileM (slices_partitionCmpFunc_api_Span_l12 a6 cmp9 sv498) (sv498.2.1)).bind fun e1454 =>
  (whileM (slices_partitionCmpFunc_api_Span_l13 a6 cmp9 sv498 e1454) (sv498.2.2)).bind fun e1593 =>
  (if (decide (e1593 < e1454)) = true then
    some (Sum.inr (sv498.1, e1593))
  else
    (ix sv498.1 e1593).bind fun x1656 =>
    (ix sv498.1 e1454).bind fun x1665 =>
    (ix sv498.1 e1454).bind fun x1674 =>
    (setM sv498.1 e1454 x1656).bind fun l1682 =>
    (ix l1682 e1593).bind fun x1687 =>
    (setM l1682 e1593 x1665).bind fun l1695 =>
    (some (w64 (e1454 + 1))).bind fun i1704 =>
    (some (w64 (e1593 - 1))).bind fun j1706 =>
    some (Sum.inl (l1695, i1704, j1706)))
noncomputable def slices_partitionCmpFunc_api_Span (data1 : (List Span)) (a6 : Int) (b7 : Int) (pivot8 : Int) (cmp9 : Span → Span → Option Int) : Option (Int × Bool × (List Span)) :=
  (ix data1 pivot8).bind fun x16 =>
  (ix data1 a6).bind fun x29 =>
  (ix data1 a6).bind fun x38 =>
  (setM data1 a6 x16).bind fun l46 =>
  (ix l46 pivot8).bind fun x51 =>
  (setM l46 pivot8 x29).bind fun l59 =>
  (some (w64 (a6 + 1))).bind fun i68 =>
  (some (w64 (b7 - 1))).bind fun j70 =>
  (whileM (slices_partitionCmpFunc_api_Span_l1 a6 cmp9 l59 j70) (i68)).bind fun e152 =>
  (whileM (slices_partitionCmpFunc_api_Span_l2 a6 cmp9 l59 e152) (j70)).bind fun e291 =>
  (if (decide (e291 < e152)) = true then
    (ix l59 a6).bind fun x398 =>
    (ix l59 e291).bind fun x407 =>
    (ix l59 e291).bind fun x416 =>
    (setM l59 e291 x398).bind fun l424 =>
    (ix l424 a6).bind fun x429 =>
    (setM l424 a6 x407).bind fun l437 =>
    some (e291, true, l437)
  else
    (ix l59 e291).bind fun x447 =>
    (ix l59 e152).bind fun x456 =>
    (ix l59 e152).bind fun x465 =>
    (setM l59 e152 x447).bind fun l473 =>
    (ix l473 e291).bind fun x478 =>
    (setM l473 e291 x456).bind fun l486 =>
    (some (w64 (e152 + 1))).bind fun i495 =>
    (some (w64 (e291 - 1))).bind fun j497 =>
    (whileM (slices_partitionCmpFunc_api_Span_l7 a6 cmp9) (l486, i495, j497)).bind fun e1154 =>
    (ix e1154.1 a6).bind fun x1711 =>
    (ix e1154.1 e1154.2).bind fun x1720 =>
    (ix e1154.1 e1154.2).bind fun x1729 =>
    (setM e1154.1 e1154.2 x1711).bind fun l1737 =>
    (ix l1737 a6).bind fun x1742 =>
    (setM l1737 a6 x1720).bind fun l1750 =>
    some (e1154.2, false, l1750))

-- slices.nextPowerOfTwo
noncomputable def slices_nextPowerOfTwo (length1 : Int) : Option Int :=
  (math_bits_Len (IntKind.u64.wrap length1)).bind fun rv3 =>
  (shlM .u64 1 rv3).bind fun shl10 =>
  some shl10

-- (*slices.xorshift).Next
noncomputable def slices_xorshift_Next (r1 : Int) : Option (Int × Int) :=
  (shlM .u64 r1 13).bind fun shl4 =>
  (shrM .u64 (Go.bits .xor .u64 r1 shl4) 7).bind fun shr7 =>
  (shlM .u64 (Go.bits .xor .u64 (Go.bits .xor .u64 r1 shl4) shr7) 17).bind fun shl10 =>
  (some (Go.bits .xor .u64 (Go.bits .xor .u64 (Go.bits .xor .u64 r1 shl4) shr7) shl10)).bind fun x13 =>
  some (x13, (Go.bits .xor .u64 (Go.bits .xor .u64 (Go.bits .xor .u64 r1 shl4) shr7) shl10))

-- slices.breakPatternsCmpFunc[seismonet/api.Span]
noncomputable def slices_breakPatternsCmpFunc_api_Span_j1 (x237 : (List Span)) : Option (List Span) :=
  some x237
noncomputable def slices_breakPatternsCmpFunc_api_Span_j2 (a6 : Int) (sv249 : (Int × (List Span) × Int)) (rv524 : (Int × Int)) (other536 : Int) : Option ((Int × (List Span) × Int) ⊕ (List Span)) :=
  (ix sv249.2.1 (w64 (a6 + other536))).bind fun x539 =>
  (ix sv249.2.1 sv249.2.2).bind fun x552 =>
  (ix sv249.2.1 sv249.2.2).bind fun x561 =>
  (setM sv249.2.1 sv249.2.2 x539).bind fun l569 =>
  (ix l569 (w64 (a6 + other536))).bind fun x574 =>
  (setM l569 (w64 (a6 + other536)) x552).bind fun l582 =>
  (some (w64 (sv249.2.2 + 1))).bind fun idx591 =>
  some (Sum.inl (rv524.2, l582, idx591))
noncomputable def slices_breakPatternsCmpFunc_api_Span_l2 (a6 : Int) (length14 : Int) (rv241 : Int) (sv249 : (Int × (List Span) × Int)) : Option ((Int × (List Span) × Int) ⊕ (List Span)) :=
  (if (decide (sv249.2.2 ≤ (w64 ((w64 (a6 + (w64 ((w64 (Int.tdiv length14 4)) * 2)))) + 1)))) = true then
    (slices_xorshift_Next sv249.1).bind fun rv524 =>
    (some (w64 (Go.bits .and .u64 rv524.1 (IntKind.u64.wrap (rv241 - 1))))).bind fun other531 =>
    (if (decide (length14 ≤ other531)) = true then
      (some (w64 (other531 - length14))).bind fun other594 =>
      slices_breakPatternsCmpFunc_api_Span_j2 a6 sv249 rv524 other594
    else
      slices_breakPatternsCmpFunc_api_Span_j2 a6 sv249 rv524 other531)
  else
    some (Sum.inr sv249.2.1))
noncomputable def slices_breakPatternsCmpFunc_api_Span (data1 : (List Span)) (a6 : Int) (b7 : Int) (cmp8 : Span → Span → Option Int) : Option (List Span) :=
  (some (w64 (b7 - a6))).bind fun length14 =>
  (if (decide (8 ≤ length14)) = true then
    (slices_nextPowerOfTwo length14).bind fun rv241 =>
    (some (w64 ((w64 (a6 + (w64 ((w64 (Int.tdiv length14 4)) * 2)))) - 1))).bind fun idx248 =>
    (whileM (slices_breakPatternsCmpFunc_api_Span_l2 a6 length14 rv241) ((IntKind.u64.wrap length14), data1, idx248)).bind fun e455 =>
    slices_breakPatternsCmpFunc_api_Span_j1 e455
  else
    slices_breakPatternsCmpFunc_api_Span_j1 data1)

-- slices.pdqsortCmpFunc[seismonet/api.Span]
noncomputable def slices_pdqsortCmpFunc_api_Span_j1 (data1719 : (List Span)) (av1720 : Int) (b1721 : Int) (limit1722 : Int) (wasBalanced1723 : Bool) (wasPartitioned1724 : Bool) : Option (((List Span) × Int × Int × Int × Bool × Bool) ⊕ (List Span)) :=
  some (Sum.inl (data1719, av1720, b1721, limit1722, wasBalanced1723, wasPartitioned1724))
noncomputable def slices_pdqsortCmpFunc_api_Span_j5 (limit1799 : Int) (rv1930 : (Int × Bool × (List Span))) (data1976 : (List Span)) (av1977 : Int) (b1978 : Int) (wasBalanced1979 : Bool) : Option (((List Span) × Int × Int × Int × Bool × Bool) ⊕ (List Span)) :=
  slices_pdqsortCmpFunc_api_Span_j1 data1976 av1977 b1978 limit1799 wasBalanced1979 rv1930.2.1
noncomputable def slices_pdqsortCmpFunc_api_Span_j4 (cmp9 : Span → Span → Option Int) (frec : (List Span) → Int → Int → Int → (Span → Span → Option Int) → Option (List Span)) (sv773 : ((List Span) × Int × Int × Int × Bool × Bool)) (length1726 : Int) (limit1799 : Int) (pivot1825 : Int) (data1845 : (List Span)) : Option (((List Span) × Int × Int × Int × Bool × Bool) ⊕ (List Span)) :=
  (if (decide (0 < sv773.2.1)) = true then
    (ix data1845 (w64 (sv773.2.1 - 1))).bind fun x1848 =>
    (ix data1845 pivot1825).bind fun x1861 =>
    (cmp9 x1848 x1861).bind fun rv1869 =>
    some (!(decide (rv1869 < 0)))
  else
    some false).bind fun c1870 =>
  (if c1870 = true then
    (slices_partitionEqualCmpFunc_api_Span data1845 sv773.2.1 sv773.2.2.1 pivot1825 cmp9).bind fun rv1918 =>
    slices_pdqsortCmpFunc_api_Span_j1 rv1918.2 rv1918.1 sv773.2.2.1 limit1799 sv773.2.2.2.2.1 sv773.2.2.2.2.2
  else
    (slices_partitionCmpFunc_api_Span data1845 sv773.2.1 sv773.2.2.1 pivot1825 cmp9).bind fun rv1930 =>
    (some (w64 (rv1930.1 - sv773.2.1))).bind fun leftLen1942 =>
    (some (w64 (sv773.2.2.1 - rv1930.1))).bind fun rightLen1944 =>
    (some (w64 (Int.tdiv length1726 8))).bind fun balanceThreshold1946 =>
    (if (decide (leftLen1942 < rightLen1944)) = true then
      (frec rv1930.2.2 sv773.2.1 rv1930.1 limit1799 cmp9).bind fun rv1982 =>
      (some (w64 (rv1930.1 + 1))).bind fun av1994 =>
      slices_pdqsortCmpFunc_api_Span_j5 limit1799 rv1930 rv1982 av1994 sv773.2.2.1 (decide (balanceThreshold1946 ≤ leftLen1942))
    else
      (frec rv1930.2.2 (w64 (rv1930.1 + 1)) sv773.2.2.1 limit1799 cmp9).bind fun rv1996 =>
      slices_pdqsortCmpFunc_api_Span_j5 limit1799 rv1930 rv1996 sv773.2.1 rv1930.1 (decide (balanceThreshold1946 ≤ rightLen1944))))
noncomputable def slices_pdqsortCmpFunc_api_Span_j3 (cmp9 : Span → Span → Option Int) (frec : (List Span) → Int → Int → Int → (Span → Span → Option Int) → Option (List Span)) (sv773 : ((List Span) × Int × Int × Int × Bool × Bool)) (length1726 : Int) (limit1799 : Int) (data1824 : (List Span)) (pivot1825 : Int) (hint1826 : Int) : Option (((List Span) × Int × Int × Int × Bool × Bool) ⊕ (List Span)) :=
  (if ((sv773.2.2.2.2.1 && sv773.2.2.2.2.2) && (hint1826 == 1)) = true then
    (slices_partialInsertionSortCmpFunc_api_Span data1824 sv773.2.1 sv773.2.2.1 cmp9).bind fun rv2009 =>
    (if rv2009.1 = true then
      some (Sum.inr rv2009.2)
    else
      slices_pdqsortCmpFunc_api_Span_j4 cmp9 frec sv773 length1726 limit1799 pivot1825 rv2009.2)
  else
    slices_pdqsortCmpFunc_api_Span_j4 cmp9 frec sv773 length1726 limit1799 pivot1825 data1824)
noncomputable def slices_pdqsortCmpFunc_api_Span_j2 (cmp9 : Span → Span → Option Int) (frec : (List Span) → Int → Int → Int → (Span → Span → Option Int) → Option (List Span)) (sv773 : ((List Span) × Int × Int × Int × Bool × Bool)) (length1726 : Int) (data1798 : (List Span)) (limit1799 : Int) : Option (((List Span) × Int × Int × Int × Bool × Bool) ⊕ (List Span)) :=
  (slices_choosePivotCmpFunc_api_Span data1798 sv773.2.1 sv773.2.2.1 cmp9).bind fun rv1801 =>
  (if (rv1801.2 == 2) = true then
    (slices_reverseRangeCmpFunc_api_Span data1798 sv773.2.1 sv773.2.2.1 cmp9).bind fun rv2027 =>
    (some (w64 ((w64 (sv773.2.2.1 - 1)) - (w64 (rv1801.1 - sv773.2.1))))).bind fun pivot2039 =>
    slices_pdqsortCmpFunc_api_Span_j3 cmp9 frec sv773 length1726 limit1799 rv2027 pivot2039 1
  else
    slices_pdqsortCmpFunc_api_Span_j3 cmp9 frec sv773 length1726 limit1799 data1798 rv1801.1 rv1801.2)
noncomputable def slices_pdqsortCmpFunc_api_Span_l2 (cmp9 : Span → Span → Option Int) (frec : (List Span) → Int → Int → Int → (Span → Span → Option Int) → Option (List Span)) (sv773 : ((List Span) × Int × Int × Int × Bool × Bool)) : Option (((List Span) × Int × Int × Int × Bool × Bool) ⊕ (List Span)) :=
  (some (w64 (sv773.2.2.1 - sv773.2.1))).bind fun length1726 =>
  (if (decide (length1726 ≤ 12)) = true then
    (slices_insertionSortCmpFunc_api_Span sv773.1 sv773.2.1 sv773.2.2.1 cmp9).bind fun rv1742 =>
    some (Sum.inr rv1742)
  else
    (if (sv773.2.2.2.1 == 0) = true then
      (slices_heapSortCmpFunc_api_Span sv773.1 sv773.2.1 sv773.2.2.1 cmp9).bind fun rv1769 =>
      some (Sum.inr rv1769)
    else
      (if (!sv773.2.2.2.2.1) = true then
        (slices_breakPatternsCmpFunc_api_Span sv773.1 sv773.2.1 sv773.2.2.1 cmp9).bind fun rv2042 =>
        (some (w64 (sv773.2.2.2.1 - 1))).bind fun limit2054 =>
        slices_pdqsortCmpFunc_api_Span_j2 cmp9 frec sv773 length1726 rv2042 limit2054
      else
        slices_pdqsortCmpFunc_api_Span_j2 cmp9 frec sv773 length1726 sv773.1 sv773.2.2.2.1)))
noncomputable def slices_pdqsortCmpFunc_api_Span_body (frec : (List Span) → Int → Int → Int → (Span → Span → Option Int) → Option (List Span)) (data1 : (List Span)) (a6 : Int) (b7 : Int) (limit8 : Int) (cmp9 : Span → Span → Option Int) : Option (List Span) :=
  whileM (slices_pdqsortCmpFunc_api_Span_l2 cmp9 frec) (data1, a6, b7, limit8, true, true)
noncomputable def slices_pdqsortCmpFunc_api_Span_n : Nat → (List Span) → Int → Int → Int → (Span → Span → Option Int) → Option (List Span)
  | 0 => fun _ _ _ _ _ => none
  | n + 1 => slices_pdqsortCmpFunc_api_Span_body (slices_pdqsortCmpFunc_api_Span_n n)
noncomputable def slices_pdqsortCmpFunc_api_Span (data1 : (List Span)) (a6 : Int) (b7 : Int) (limit8 : Int) (cmp9 : Span → Span → Option Int) : Option (List Span) :=
  slices_pdqsortCmpFunc_api_Span_n 200 data1 a6 b7 limit8 cmp9

-- slices.SortFunc[[]seismonet/api.Span,seismonet/api.Span]
noncomputable def slices_SortFunc_Lapi_Span_api_Span (x1 : (List Span)) (cmp6 : Span → Span → Option Int) : Option (List Span) :=
  (some (x1.length : Int)).bind fun n12 =>
  (math_bits_Len (IntKind.u64.wrap n12)).bind fun rv14 =>
  (slices_pdqsortCmpFunc_api_Span x1 0 n12 rv14 cmp6).bind fun rv21 =>
  some rv21

-- cmp.isNaN[int]
noncomputable def cmp_isNaN_int (x1 : Int) : Option Bool :=
  some (x1 != x1)

-- cmp.Compare[int]
noncomputable def cmp_Compare_int (x1 : Int) (y2 : Int) : Option Int :=
  (cmp_isNaN_int x1).bind fun rv4 =>
  (cmp_isNaN_int y2).bind fun rv11 =>
  (if rv4 = true then
    (if rv11 = true then
      some 0
    else
      some (-1))
  else
    (if rv11 = true then
      some 1
    else
      (if (decide (x1 < y2)) = true then
        some (-1)
      else
        (if (decide (y2 < x1)) = true then
          some 1
        else
          some 0))))

-- seismonet/span.Normal$2
noncomputable def span_Normal_fn2 (a1 : Span) (b2 : Span) : Option Int :=
  (cmp_Compare_int a1.From b2.From).bind fun rv6 =>
  some rv6

-- seismonet/span.Normal
noncomputable def span_Normal_j1 (sv39 : ((List Span) × Int)) (out425 : (List Span)) : Option (((List Span) × Int) ⊕ (List Span)) :=
  some (Sum.inl (out425, (w64 (sv39.2 + 1))))
noncomputable def span_Normal_l1 (rv28 : (List Span)) (sv39 : ((List Span) × Int)) : Option (((List Span) × Int) ⊕ (List Span)) :=
  (if (decide (sv39.2 < (rv28.length : Int))) = true then
    (ix rv28 sv39.2).bind fun x341 =>
    (some (sv39.1.length : Int)).bind fun n354 =>
    (if (decide (0 < n354)) = true then
      (ix sv39.1 (w64 (n354 - 1))).bind fun x357 =>
      some (decide (x341.From ≤ x357.To))
    else
      some false).bind fun c368 =>
    (if c368 = true then
      (ix sv39.1 (w64 (n354 - 1))).bind fun x429 =>
      (ix sv39.1 (w64 (n354 - 1))).bind fun x442 =>
      (setM sv39.1 (w64 (n354 - 1)) (⟨x442.From, (max x429.To x341.To)⟩ : Span)).bind fun l450 =>
      span_Normal_j1 sv39 l450
    else
      (appM 16 sv39.1 ([x341] : List Span)).bind fun l457 =>
      span_Normal_j1 sv39 l457)
  else
    some (Sum.inr sv39.1))
noncomputable def span_Normal (l1 : (List Span)) : Option (List Span) :=
  (slices_Clone_Lapi_Span_api_Span l1).bind fun rv6 =>
  (slices_DeleteFunc_Lapi_Span_api_Span rv6 span_Normal_fn1).bind fun rv17 =>
  (slices_SortFunc_Lapi_Span_api_Span rv17 span_Normal_fn2).bind fun rv28 =>
  (whileM (span_Normal_l1 rv28) (([] : List Span), 0)).bind fun e261 =>
  some e261

-- seismonet/span.Meet
noncomputable def span_Meet_j2 (out497 : (List Span)) (i523 : Int) (k524 : Int) : Option (((List Span) × Int × Int) ⊕ (List Span)) :=
  some (Sum.inl (out497, i523, k524))
noncomputable def span_Meet_j1 (rv10 : (List Span)) (rv21 : (List Span)) (sv31 : ((List Span) × Int × Int)) (out497 : (List Span)) : Option (((List Span) × Int × Int) ⊕ (List Span)) :=
  (ix rv10 sv31.2.1).bind fun x500 =>
  (ix rv21 sv31.2.2).bind fun x509 =>
  (if (decide (x500.To < x509.To)) = true then
    (some (w64 (sv31.2.1 + 1))).bind fun i527 =>
    span_Meet_j2 out497 i527 sv31.2.2
  else
    (some (w64 (sv31.2.2 + 1))).bind fun k529 =>
    span_Meet_j2 out497 sv31.2.1 k529)
noncomputable def span_Meet_l1 (rv10 : (List Span)) (rv21 : (List Span)) (sv31 : ((List Span) × Int × Int)) : Option (((List Span) × Int × Int) ⊕ (List Span)) :=
  (if ((decide (sv31.2.1 < (rv10.length : Int))) && (decide (sv31.2.2 < (rv21.length : Int)))) = true then
    (ix rv10 sv31.2.1).bind fun x434 =>
    (ix rv21 sv31.2.2).bind fun x447 =>
    (ix rv10 sv31.2.1).bind fun x460 =>
    (ix rv21 sv31.2.2).bind fun x469 =>
    (span_some (⟨(max x434.From x447.From), (min x460.To x469.To)⟩ : Span)).bind fun rv479 =>
    (if rv479 = true then
      (appM 16 sv31.1 ([(⟨(max x434.From x447.From), (min x460.To x469.To)⟩ : Span)] : List Span)).bind fun l534 =>
      span_Meet_j1 rv10 rv21 sv31 l534
    else
      span_Meet_j1 rv10 rv21 sv31 sv31.1)
  else
    some (Sum.inr sv31.1))
noncomputable def span_Meet (a1 : (List Span)) (b5 : (List Span)) : Option (List Span) :=
  (span_Normal a1).bind fun rv10 =>
  (span_Normal b5).bind fun rv21 =>
  (whileM (span_Meet_l1 rv10 rv21) (([] : List Span), 0, 0)).bind fun e331 =>
  some e331

-- seismonet/receiver.Valid
noncomputable def receiver_Valid (r1 : Receiver) : Option Bool :=
  (receiver_set r1.Got).bind fun rv10 =>
  ((if rv10 = true then
    (receiver_set r1.Lost).bind fun rv27 =>
    some rv27
  else
    some false)).bind fun c24 =>
  ((if c24 = true then
    (span_Meet r1.Got r1.Lost).bind fun rv48 =>
    some ((rv48.length : Int) == 0)
  else
    some false)).bind fun c45 =>
  some c45

-- seismonet/receiver.in
noncomputable def receiver_in (n1 : Int) (low2 : Int) (high3 : Int) : Option Bool :=
  some ((decide (low2 ≤ n1)) && (decide (n1 ≤ high3)))

-- slices.ContainsFunc[[]seismonet/api.Span,seismonet/api.Span]
noncomputable def slices_ContainsFunc_Lapi_Span_api_Span (s1 : (List Span)) (f5 : Span → Option Bool) : Option Bool :=
  (slices_IndexFunc_Lapi_Span_api_Span s1 f5).bind fun rv11 =>
  some (decide (0 ≤ rv11))

-- seismonet/span.Has$1
noncomputable def span_Has_fn1 (s1 : Span) (x2 : Int) : Option Bool :=
  some ((decide (s1.From ≤ x2)) && (decide (x2 < s1.To)))

-- seismonet/span.Has
noncomputable def span_Has (l1 : (List Span)) (x5 : Int) : Option Bool :=
  (slices_ContainsFunc_Lapi_Span_api_Span l1 (fun y0 => span_Has_fn1 y0 x5)).bind fun rv8 =>
  some rv8

-- slices.Grow[[]seismonet/api.Span,seismonet/api.Span]
noncomputable def slices_Grow_Lapi_Span_api_Span_n_j1 (sv23 : (List Span)) : Option (List Span) :=
  some sv23
noncomputable def slices_Grow_Lapi_Span_api_Span_n (n1 : Int) : Option (List Span) :=
  (if (decide (n1 < 0)) = true then
    none
  else
    (some (w64 (n1 - (w64 (((0 : Nat) : Int) - (([] : List Span).length : Int)))))).bind fun n5 =>
    (if (decide (0 < n5)) = true then
      (subM ([] : List Span) 0 ((0 : Nat) : Int)).bind fun l28 =>
      (makeM 16 ((⟨0, 0⟩ : Span) : Span) n5).bind fun l30 =>
      (subM l30 0 (([] : List Span).length : Int)).bind fun l36 =>
      slices_Grow_Lapi_Span_api_Span_n_j1 l36
    else
      slices_Grow_Lapi_Span_api_Span_n_j1 ([] : List Span)))

-- slices.Concat[[]seismonet/api.Span,seismonet/api.Span]
noncomputable def slices_Concat_Lapi_Span_api_Span_l1 (slices1 : (List (List Span))) (sv5 : (Int × Int)) : Option ((Int × Int) ⊕ Int) :=
  (if (decide (sv5.2 < (slices1.length : Int))) = true then
    (ix slices1 sv5.2).bind fun x100 =>
    (some (w64 (sv5.1 + (x100.length : Int)))).bind fun size116 =>
    (if (decide (size116 < 0)) = true then
      none
    else
      some (Sum.inl (size116, (w64 (sv5.2 + 1)))))
  else
    some (Sum.inr sv5.1))
noncomputable def slices_Concat_Lapi_Span_api_Span_l2 (slices1 : (List (List Span))) (sv131 : ((List Span) × Int)) : Option (((List Span) × Int) ⊕ (List Span)) :=
  (if (decide (sv131.2 < (slices1.length : Int))) = true then
    (ix slices1 sv131.2).bind fun x243 =>
    (appM 16 sv131.1 x243).bind fun l259 =>
    some (Sum.inl (l259, (w64 (sv131.2 + 1))))
  else
    some (Sum.inr sv131.1))
noncomputable def slices_Concat_Lapi_Span_api_Span (slices1 : (List (List Span))) : Option (List Span) :=
  (whileM (slices_Concat_Lapi_Span_api_Span_l1 slices1) (0, 0)).bind fun e74 =>
  (slices_Grow_Lapi_Span_api_Span_n e74).bind fun rv121 =>
  (whileM (slices_Concat_Lapi_Span_api_Span_l2 slices1) (rv121, 0)).bind fun e212 =>
  some e212

-- seismonet/span.Union
noncomputable def span_Union (a1 : (List Span)) (b5 : (List Span)) : Option (List Span) :=
  (slices_Concat_Lapi_Span_api_Span ([a1, b5] : List (List Span))).bind fun rv12 =>
  (span_Normal rv12).bind fun rv24 =>
  some rv24

-- seismonet/span.Minus
noncomputable def span_Minus_j1 (sv711 : ((List Span) × Int × Int)) (out883 : (List Span)) (atv884 : Int) : Option (((List Span) × Int × Int) ⊕ ((List Span) × Int)) :=
  some (Sum.inl (out883, atv884, (w64 (sv711.2.2 + 1))))
noncomputable def span_Minus_j2 (sv711 : ((List Span) × Int × Int)) (x887 : Span) (out914 : (List Span)) : Option (((List Span) × Int × Int) ⊕ ((List Span) × Int)) :=
  (some (max sv711.2.1 x887.To)).bind fun atv916 =>
  span_Minus_j1 sv711 out914 atv916
noncomputable def span_Minus_l6 (rv10 : (List Span)) (x699 : Span) (sv711 : ((List Span) × Int × Int)) : Option (((List Span) × Int × Int) ⊕ ((List Span) × Int)) :=
  (if (decide (sv711.2.2 < (rv10.length : Int))) = true then
    (ix rv10 sv711.2.2).bind fun x887 =>
    (if ((decide (x887.To ≤ sv711.2.1)) || (decide (x699.To ≤ x887.From))) = true then
      span_Minus_j1 sv711 sv711.1 sv711.2.1
    else
      (if (decide (sv711.2.1 < x887.From)) = true then
        (appM 16 sv711.1 ([(⟨sv711.2.1, x887.From⟩ : Span)] : List Span)).bind fun l921 =>
        span_Minus_j2 sv711 x887 l921
      else
        span_Minus_j2 sv711 x887 sv711.1))
  else
    some (Sum.inr (sv711.1, sv711.2.1)))
noncomputable def span_Minus_j4 (sv31 : ((List Span) × Int)) (out939 : (List Span)) : Option (((List Span) × Int) ⊕ (List Span)) :=
  some (Sum.inl (out939, (w64 (sv31.2 + 1))))
noncomputable def span_Minus_l3 (rv10 : (List Span)) (rv21 : (List Span)) (sv31 : ((List Span) × Int)) : Option (((List Span) × Int) ⊕ (List Span)) :=
  (if (decide (sv31.2 < (rv21.length : Int))) = true then
    (ix rv21 sv31.2).bind fun x699 =>
    (whileM (span_Minus_l6 rv10 x699) (sv31.1, x699.From, 0)).bind fun e840 =>
    (if (decide (e840.2 < x699.To)) = true then
      (appM 16 e840.1 ([(⟨e840.2, x699.To⟩ : Span)] : List Span)).bind fun l944 =>
      span_Minus_j4 sv31 l944
    else
      span_Minus_j4 sv31 e840.1)
  else
    some (Sum.inr sv31.1))
noncomputable def span_Minus (a1 : (List Span)) (b5 : (List Span)) : Option (List Span) :=
  (span_Normal b5).bind fun rv10 =>
  (span_Normal a1).bind fun rv21 =>
  (whileM (span_Minus_l3 rv10 rv21) (([] : List Span), 0)).bind fun e529 =>
  some e529

-- seismonet/receiver.limited
noncomputable def receiver_limited (got1 : (List Span)) (lost5 : (List Span)) : Option (Receiver × Int) :=
  (if ((decide (4096 < (got1.length : Int))) || (decide (4096 < (lost5.length : Int)))) = true then
    some ((⟨([] : List Span), ([] : List Span)⟩ : Receiver), 8)
  else
    some ((⟨got1, lost5⟩ : Receiver), 0))

-- seismonet/receiver.Accept
noncomputable def receiver_Accept (r1 : Receiver) (seq8 : Int) : Option (Receiver × Bool × Int) :=
  (receiver_Valid r1).bind fun rv12 =>
  (if (!rv12) = true then
    some ((⟨([] : List Span), ([] : List Span)⟩ : Receiver), false, 1)
  else
    (receiver_in seq8 0 1073741824).bind fun rv21 =>
    (if (!rv21) = true then
      some ((⟨([] : List Span), ([] : List Span)⟩ : Receiver), false, 2)
    else
      (span_Has r1.Got seq8).bind fun rv32 =>
      (span_Union r1.Got ([(⟨seq8, (w64 (seq8 + 1))⟩ : Span)] : List Span)).bind fun rv39 =>
      (span_Minus r1.Lost ([(⟨seq8, (w64 (seq8 + 1))⟩ : Span)] : List Span)).bind fun rv45 =>
      (receiver_limited rv39 rv45).bind fun rv51 =>
      some (rv51.1, ((!rv32) && (rv51.2 == 0)), rv51.2)))

-- seismonet/receiver.High
noncomputable def receiver_High_j1 (sv20 : (Int × Int)) (high187 : Int) : Option ((Int × Int) ⊕ Int) :=
  some (Sum.inl (high187, (w64 (sv20.2 + 1))))
noncomputable def receiver_High_l1 (r1 : Receiver) (sv20 : (Int × Int)) : Option ((Int × Int) ⊕ Int) :=
  (if (decide (sv20.2 < (([r1.Got, r1.Lost] : List (List Span)).length : Int))) = true then
    (ix ([r1.Got, r1.Lost] : List (List Span)) sv20.2).bind fun x159 =>
    (if (decide (0 < (x159.length : Int))) = true then
      (ix x159 (w64 ((x159.length : Int) - 1))).bind fun x191 =>
      (some (max sv20.1 x191.To)).bind fun high203 =>
      receiver_High_j1 sv20 high203
    else
      receiver_High_j1 sv20 sv20.1)
  else
    some (Sum.inr sv20.1))
noncomputable def receiver_High (r1 : Receiver) : Option Int :=
  (receiver_Valid r1).bind fun rv10 =>
  (if (!rv10) = true then
    some 0
  else
    (whileM (receiver_High_l1 r1) (0, 0)).bind fun e122 =>
    some e122)

-- seismonet/receiver.known
noncomputable def receiver_known (r1 : Receiver) : Option (List Span) :=
  (span_Union r1.Got r1.Lost).bind fun rv10 =>
  some rv10

-- seismonet/receiver.Missing
noncomputable def receiver_Missing (r1 : Receiver) (next8 : Int) : Option ((List Span) × Int) :=
  (receiver_Valid r1).bind fun rv11 =>
  (if (!rv11) = true then
    some (([] : List Span), 1)
  else
    (receiver_in next8 0 1073741825).bind fun rv20 =>
    (if (!rv20) = true then
      some (([] : List Span), 2)
    else
      (receiver_High r1).bind fun rv29 =>
      (receiver_known r1).bind fun rv33 =>
      (span_Minus ([(⟨0, (max next8 rv29)⟩ : Span)] : List Span) rv33).bind fun rv39 =>
      some (rv39, 0)))

-- seismonet/receiver.Lose
noncomputable def receiver_Lose (r1 : Receiver) (below8 : Int) : Option (Receiver × Int) :=
  (receiver_Valid r1).bind fun rv12 =>
  (if (!rv12) = true then
    some ((⟨([] : List Span), ([] : List Span)⟩ : Receiver), 1)
  else
    (receiver_in below8 0 1073741825).bind fun rv21 =>
    (if (!rv21) = true then
      some ((⟨([] : List Span), ([] : List Span)⟩ : Receiver), 2)
    else
      (span_Minus ([(⟨0, below8⟩ : Span)] : List Span) r1.Got).bind fun rv32 =>
      (slices_Clone_Lapi_Span_api_Span r1.Got).bind fun rv44 =>
      (span_Union r1.Lost rv32).bind fun rv50 =>
      (receiver_limited rv44 rv50).bind fun rv56 =>
      some (rv56.1, rv56.2)))

-- seismonet/seismonetref08.Same
noncomputable def ref08_Same_l2 (a1 : (List Span)) (b5 : (List Span)) (sv109 : Int) : Option (Int ⊕ Bool) :=
  (if (decide (sv109 < (a1.length : Int))) = true then
    (ix a1 sv109).bind fun x241 =>
    (ix b5 sv109).bind fun x254 =>
    (if (!((x241.From == x254.From) && ((x241.To == x254.To) && true))) = true then
      some (Sum.inr false)
    else
      (some (w64 (sv109 + 1))).bind fun i270 =>
      some (Sum.inl i270))
  else
    Option.map Sum.inr (some true))
noncomputable def ref08_Same (a1 : (List Span)) (b5 : (List Span)) : Option Bool :=
  (if ((a1.length : Int) != (b5.length : Int)) = true then
    some false
  else
    whileM (ref08_Same_l2 a1 b5) (0))

-- seismonet/receiver.Settled
noncomputable def receiver_Settled (r1 : Receiver) : Option Int :=
  (receiver_known r1).bind fun rv10 =>
  (receiver_Valid r1).bind fun rv21 =>
  ((if ((!rv21) || ((rv10.length : Int) == 0)) = true then
    some true
  else
    (ix rv10 0).bind fun x46 =>
    some (decide (0 < x46.From)))).bind fun c42 =>
  (if c42 = true then
    some 0
  else
    (ix rv10 0).bind fun x61 =>
    some x61.To)

-- seismonet/seismonetlaw11.sane
noncomputable def law11_sane_l2 (sv102 : ((List Span) × (List Span) × Int)) : Option (((List Span) × (List Span) × Int) ⊕ Bool) :=
  (if (decide (sv102.2.2 < (([0, 1, 4] : List Int).length : Int))) = true then
    (ix ([0, 1, 4] : List Int) sv102.2.2).bind fun x216 =>
    (receiver_Accept (⟨sv102.1, sv102.2.1⟩ : Receiver) x216).bind fun rv224 =>
    (if (rv224.2.2 != 0) = true then
      some (Sum.inr false)
    else
      some (Sum.inl (rv224.1.Got, rv224.1.Lost, (w64 (sv102.2.2 + 1)))))
  else
    Option.map Sum.inr ((receiver_Missing (⟨sv102.1, sv102.2.1⟩ : Receiver) 5).bind fun rv240 =>
    (receiver_Lose (⟨sv102.1, sv102.2.1⟩ : Receiver) 3).bind fun rv251 =>
    ((if ((rv240.2 == 0) && (rv251.2 == 0)) = true then
      (ref08_Same rv240.1 ([(⟨2, 4⟩ : Span)] : List Span)).bind fun rv280 =>
      some rv280
    else
      some false)).bind fun c275 =>
    ((if c275 = true then
      (receiver_Settled (⟨sv102.1, sv102.2.1⟩ : Receiver)).bind fun rv297 =>
      some (rv297 == 2)
    else
      some false)).bind fun c294 =>
    ((if c294 = true then
      (ref08_Same rv251.1.Lost ([(⟨2, 3⟩ : Span)] : List Span)).bind fun rv318 =>
      some rv318
    else
      some false)).bind fun c313 =>
    some c313))
noncomputable def law11_sane : Option Bool :=
  (receiver_New).bind fun rv2 =>
  whileM (law11_sane_l2) (rv2.Got, rv2.Lost, 0)

-- seismonet/seismonetmade.Roll
noncomputable def made_Roll (l1 : (List Int)) : Option Dice :=
  some (⟨l1, 0⟩ : Dice)

-- seismonet/seismonetref11.New
noncomputable def ref11_New : Option Receiver :=
  some (⟨([] : List Span), ([] : List Span)⟩ : Receiver)

-- (*seismonet/seismonetmade.Dice).Next
noncomputable def made_Dice_Next_j1 (d1 : Dice) (x33 : Int) : Option (Int × Dice) :=
  some (x33, (⟨d1.L, (w64 (d1.At + 1))⟩ : Dice))
noncomputable def made_Dice_Next (d1 : Dice) (n6 : Int) : Option (Int × Dice) :=
  (if ((decide ((d1.L.length : Int) ≤ d1.At)) || (decide (n6 < 1))) = true then
    some (0, d1)
  else
    (ix d1.L d1.At).bind fun x15 =>
    (remM x15 n6).bind fun rem27 =>
    (if (decide (rem27 < 0)) = true then
      (some (w64 (rem27 + n6))).bind fun x36 =>
      made_Dice_Next_j1 d1 x36
    else
      made_Dice_Next_j1 d1 rem27))

-- seismonet/seismonetref08.Valid
noncomputable def ref08_Valid_l2 (l1 : (List Span)) (sv142 : Int) : Option (Int ⊕ Bool) :=
  (if (decide (sv142 < (l1.length : Int))) = true then
    (ix l1 sv142).bind fun x326 =>
    (ix l1 sv142).bind fun x339 =>
    (if (decide (x339.To ≤ x326.From)) = true then
      some true
    else
      (if (decide (0 < sv142)) = true then
        (ix l1 sv142).bind fun x347 =>
        (ix l1 (w64 (sv142 - 1))).bind fun x355 =>
        some (decide (x347.From ≤ x355.To))
      else
        some false).bind fun c361 =>
      some c361).bind fun c362 =>
    (if c362 = true then
      some (Sum.inr false)
    else
      (some (w64 (sv142 + 1))).bind fun i407 =>
      some (Sum.inl i407))
  else
    Option.map Sum.inr (some true))
noncomputable def ref08_Valid (l1 : (List Span)) : Option Bool :=
  whileM (ref08_Valid_l2 l1) (0)

-- seismonet/seismonetref11.numbers
noncomputable def ref11_numbers_l2 (l1 : (List Span)) (sv118 : Int) : Option (Int ⊕ Bool) :=
  (if (decide (sv118 < (l1.length : Int))) = true then
    (ix l1 sv118).bind fun x270 =>
    ((if (decide (x270.From < 0)) = true then
      some true
    else
      (ix l1 sv118).bind fun x294 =>
      some (decide (1073741825 < x294.To)))).bind fun c290 =>
    (if c290 = true then
      some (Sum.inr false)
    else
      (some (w64 (sv118 + 1))).bind fun i304 =>
      some (Sum.inl i304))
  else
    Option.map Sum.inr ((ref08_Valid l1).bind fun rv306 =>
    some rv306))
noncomputable def ref11_numbers (l1 : (List Span)) : Option Bool :=
  whileM (ref11_numbers_l2 l1) (0)

-- seismonet/seismonetref08.Normal
noncomputable def ref08_Normal_j1 (sv5 : ((List Span) × Int)) (sorted716 : (List Span)) : Option (((List Span) × Int) ⊕ (List Span)) :=
  (some (w64 (sv5.2 + 1))).bind fun i718 =>
  some (Sum.inl (sorted716, i718))
noncomputable def ref08_Normal_l6 (l1 : (List Span)) (sv5 : ((List Span) × Int)) (sv745 : Int) : Option (Int ⊕ Int) :=
  (if (decide (0 < sv745)) = true then
    (ix sv5.1 (w64 (sv745 - 1))).bind fun x833 =>
    (ix l1 sv5.2).bind fun x846 =>
    some (decide (x846.From < x833.From))
  else
    some false).bind fun c852 =>
  (if c852 = true then
    (some (w64 (sv745 - 1))).bind fun k883 =>
    some (Sum.inl k883)
  else
    some (Sum.inr sv745))
noncomputable def ref08_Normal_l3 (l1 : (List Span)) (sv5 : ((List Span) × Int)) : Option (((List Span) × Int) ⊕ (List Span)) :=
  (if (decide (sv5.2 < (l1.length : Int))) = true then
    (ix l1 sv5.2).bind fun x721 =>
    (ix l1 sv5.2).bind fun x734 =>
    (if (decide (x734.To ≤ x721.From)) = true then
      ref08_Normal_j1 sv5 sv5.1
    else
      (some (sv5.1.length : Int)).bind fun k744 =>
      (whileM (ref08_Normal_l6 l1 sv5) (k744)).bind fun e829 =>
      (ix l1 sv5.2).bind fun x887 =>
      (appM 16 sv5.1 ([x887] : List Span)).bind fun l896 =>
      (subM l896 (w64 (e829 + 1)) (l896.length : Int)).bind fun l904 =>
      (subM l896 e829 (l896.length : Int)).bind fun l909 =>
      (some (copyM l896 (w64 (e829 + 1)) (l896.length : Int) l909)).bind fun l910 =>
      (ix l1 sv5.2).bind fun x920 =>
      (ix l910 e829).bind fun x928 =>
      (setM l910 e829 x920).bind fun l940 =>
      ref08_Normal_j1 sv5 l940)
  else
    some (Sum.inr sv5.1))
noncomputable def ref08_Normal_j4 (sv945 : ((List Span) × Int)) (out1475 : (List Span)) : Option (((List Span) × Int) ⊕ (List Span)) :=
  (some (w64 (sv945.2 + 1))).bind fun i1477 =>
  some (Sum.inl (out1475, i1477))
noncomputable def ref08_Normal_l7 (e539 : (List Span)) (sv945 : ((List Span) × Int)) : Option (((List Span) × Int) ⊕ (List Span)) :=
  (if (decide (sv945.2 < (e539.length : Int))) = true then
    (some (sv945.1.length : Int)).bind fun n1352 =>
    (if (decide (0 < n1352)) = true then
      (ix e539 sv945.2).bind fun x1355 =>
      (ix sv945.1 (w64 (n1352 - 1))).bind fun x1368 =>
      some (decide (x1355.From ≤ x1368.To))
    else
      some false).bind fun c1379 =>
    (if c1379 = true then
      (ix sv945.1 (w64 (n1352 - 1))).bind fun x1481 =>
      (ix e539 sv945.2).bind fun x1494 =>
      (ix sv945.1 (w64 (n1352 - 1))).bind fun x1507 =>
      (setM sv945.1 (w64 (n1352 - 1)) (⟨x1507.From, (max x1481.To x1494.To)⟩ : Span)).bind fun l1515 =>
      ref08_Normal_j4 sv945 l1515
    else
      (ix e539 sv945.2).bind fun x1521 =>
      (appM 16 sv945.1 ([x1521] : List Span)).bind fun l1535 =>
      ref08_Normal_j4 sv945 l1535)
  else
    some (Sum.inr sv945.1))
noncomputable def ref08_Normal (l1 : (List Span)) : Option (List Span) :=
  (whileM (ref08_Normal_l3 l1) (([] : List Span), 0)).bind fun e539 =>
  (whileM (ref08_Normal_l7 e539) (([] : List Span), 0)).bind fun e1248 =>
  some e1248

-- seismonet/seismonetref08.Meet
noncomputable def ref08_Meet_j1 (sv871 : ((List Span) × Int)) (out1193 : (List Span)) : Option (((List Span) × Int) ⊕ (List Span)) :=
  (some (w64 (sv871.2 + 1))).bind fun k1195 =>
  some (Sum.inl (out1193, k1195))
noncomputable def ref08_Meet_l6 (rv10 : (List Span)) (rv21 : (List Span)) (sv31 : ((List Span) × Int)) (sv871 : ((List Span) × Int)) : Option (((List Span) × Int) ⊕ (List Span)) :=
  (if (decide (sv871.2 < (rv21.length : Int))) = true then
    (ix rv10 sv31.2).bind fun x1137 =>
    (ix rv21 sv871.2).bind fun x1150 =>
    (ix rv10 sv31.2).bind fun x1163 =>
    (ix rv21 sv871.2).bind fun x1172 =>
    (if (decide ((max x1137.From x1150.From) < (min x1163.To x1172.To))) = true then
      (appM 16 sv871.1 ([(⟨(max x1137.From x1150.From), (min x1163.To x1172.To)⟩ : Span)] : List Span)).bind fun l1200 =>
      ref08_Meet_j1 sv871 l1200
    else
      ref08_Meet_j1 sv871 sv871.1)
  else
    some (Sum.inr sv871.1))
noncomputable def ref08_Meet_l3 (rv10 : (List Span)) (rv21 : (List Span)) (sv31 : ((List Span) × Int)) : Option (((List Span) × Int) ⊕ (List Span)) :=
  (if (decide (sv31.2 < (rv10.length : Int))) = true then
    (whileM (ref08_Meet_l6 rv10 rv21 sv31) (sv31.1, 0)).bind fun e1069 =>
    (some (w64 (sv31.2 + 1))).bind fun i1206 =>
    some (Sum.inl (e1069, i1206))
  else
    some (Sum.inr sv31.1))
noncomputable def ref08_Meet (a1 : (List Span)) (b5 : (List Span)) : Option (List Span) :=
  (ref08_Normal a1).bind fun rv10 =>
  (ref08_Normal b5).bind fun rv21 =>
  (whileM (ref08_Meet_l3 rv10 rv21) (([] : List Span), 0)).bind fun e661 =>
  (ref08_Normal e661).bind fun rv1210 =>
  some rv1210

-- seismonet/seismonetref11.Valid
noncomputable def ref11_Valid (r1 : Receiver) : Option Bool :=
  (ref11_numbers r1.Got).bind fun rv10 =>
  ((if rv10 = true then
    (ref11_numbers r1.Lost).bind fun rv27 =>
    some rv27
  else
    some false)).bind fun c24 =>
  ((if c24 = true then
    (ref08_Meet r1.Got r1.Lost).bind fun rv48 =>
    some ((rv48.length : Int) == 0)
  else
    some false)).bind fun c45 =>
  some c45

-- seismonet/seismonetref01.In
noncomputable def ref01_In (n1 : Int) (lo2 : Int) (hi3 : Int) : Option Bool :=
  some ((decide (lo2 ≤ n1)) && (decide (n1 ≤ hi3)))

-- seismonet/seismonetref08.Minus
noncomputable def ref08_Minus_j1 (sv1336 : ((List Span) × Int × Int)) (out1690 : (List Span)) (fromv1691 : Int) : Option (((List Span) × Int × Int) ⊕ ((List Span) × Int)) :=
  (some (w64 (sv1336.2.2 + 1))).bind fun k1693 =>
  some (Sum.inl (out1690, fromv1691, k1693))
noncomputable def ref08_Minus_j2 (rv21 : (List Span)) (sv1336 : ((List Span) × Int × Int)) (out1780 : (List Span)) : Option (((List Span) × Int × Int) ⊕ ((List Span) × Int)) :=
  (ix rv21 sv1336.2.2).bind fun x1783 =>
  (some (max sv1336.2.1 x1783.To)).bind fun fromv1791 =>
  ref08_Minus_j1 sv1336 out1780 fromv1791
noncomputable def ref08_Minus_l6 (rv10 : (List Span)) (rv21 : (List Span)) (sv31 : ((List Span) × Int)) (sv1336 : ((List Span) × Int × Int)) : Option (((List Span) × Int × Int) ⊕ ((List Span) × Int)) :=
  (if (decide (sv1336.2.2 < (rv21.length : Int))) = true then
    (ix rv21 sv1336.2.2).bind fun x1696 =>
    (if (decide (x1696.To ≤ sv1336.2.1)) = true then
      some true
    else
      (ix rv21 sv1336.2.2).bind fun x1709 =>
      (ix rv10 sv31.2).bind fun x1718 =>
      some (decide (x1718.To ≤ x1709.From))).bind fun c1725 =>
    (if c1725 = true then
      ref08_Minus_j1 sv1336 sv1336.1 sv1336.2.1
    else
      (ix rv21 sv1336.2.2).bind fun x1752 =>
      (if (decide (sv1336.2.1 < x1752.From)) = true then
        (ix rv21 sv1336.2.2).bind fun x1795 =>
        (appM 16 sv1336.1 ([(⟨sv1336.2.1, x1795.From⟩ : Span)] : List Span)).bind fun l1805 =>
        ref08_Minus_j2 rv21 sv1336 l1805
      else
        ref08_Minus_j2 rv21 sv1336 sv1336.1))
  else
    some (Sum.inr (sv1336.1, sv1336.2.1)))
noncomputable def ref08_Minus_j4 (sv31 : ((List Span) × Int)) (out1840 : (List Span)) : Option (((List Span) × Int) ⊕ (List Span)) :=
  (some (w64 (sv31.2 + 1))).bind fun i1842 =>
  some (Sum.inl (out1840, i1842))
noncomputable def ref08_Minus_l3 (rv10 : (List Span)) (rv21 : (List Span)) (sv31 : ((List Span) × Int)) : Option (((List Span) × Int) ⊕ (List Span)) :=
  (if (decide (sv31.2 < (rv10.length : Int))) = true then
    (ix rv10 sv31.2).bind fun x1325 =>
    (whileM (ref08_Minus_l6 rv10 rv21 sv31) (sv31.1, x1325.From, 0)).bind fun e1603 =>
    (ix rv10 sv31.2).bind fun x1812 =>
    (if (decide (e1603.2 < x1812.To)) = true then
      (ix rv10 sv31.2).bind fun x1846 =>
      (appM 16 e1603.1 ([(⟨e1603.2, x1846.To⟩ : Span)] : List Span)).bind fun l1856 =>
      ref08_Minus_j4 sv31 l1856
    else
      ref08_Minus_j4 sv31 e1603.1)
  else
    some (Sum.inr sv31.1))
noncomputable def ref08_Minus (a1 : (List Span)) (b5 : (List Span)) : Option (List Span) :=
  (ref08_Normal a1).bind fun rv10 =>
  (ref08_Normal b5).bind fun rv21 =>
  (whileM (ref08_Minus_l3 rv10 rv21) (([] : List Span), 0)).bind fun e1000 =>
  some e1000

-- seismonet/seismonetref08.Union
noncomputable def ref08_Union (a1 : (List Span)) (b5 : (List Span)) : Option (List Span) :=
  (appM 16 ([] : List Span) a1).bind fun l10 =>
  (appM 16 l10 b5).bind fun l15 =>
  (ref08_Normal l15).bind fun rv20 =>
  some rv20

-- seismonet/seismonetref11.limited
noncomputable def ref11_limited (r1 : Receiver) : Option (Receiver × Int) :=
  (if ((decide (4096 < (r1.Got.length : Int))) || (decide (4096 < (r1.Lost.length : Int)))) = true then
    some ((⟨([] : List Span), ([] : List Span)⟩ : Receiver), 8)
  else
    some (r1, 0))

-- seismonet/seismonetref11.Lose
noncomputable def ref11_Lose (r1 : Receiver) (below8 : Int) : Option (Receiver × Int) :=
  (ref11_Valid r1).bind fun rv12 =>
  (if (!rv12) = true then
    some ((⟨([] : List Span), ([] : List Span)⟩ : Receiver), 1)
  else
    (ref01_In below8 0 1073741825).bind fun rv21 =>
    (if (!rv21) = true then
      some ((⟨([] : List Span), ([] : List Span)⟩ : Receiver), 2)
    else
      (ref08_Minus ([(⟨0, below8⟩ : Span)] : List Span) r1.Got).bind fun rv32 =>
      (appM 16 ([] : List Span) r1.Got).bind fun l44 =>
      (ref08_Union r1.Lost rv32).bind fun rv49 =>
      (ref11_limited (⟨l44, rv49⟩ : Receiver)).bind fun rv55 =>
      some (rv55.1, rv55.2)))

-- seismonet/seismonetref08.Has
noncomputable def ref08_Has_l2 (l1 : (List Span)) (x5 : Int) (sv119 : Int) : Option (Int ⊕ Bool) :=
  (if (decide (sv119 < (l1.length : Int))) = true then
    (ix l1 sv119).bind fun x271 =>
    ((if (decide (x271.From ≤ x5)) = true then
      (ix l1 sv119).bind fun x295 =>
      some (decide (x5 < x295.To))
    else
      some false)).bind fun c291 =>
    (if c291 = true then
      some (Sum.inr true)
    else
      (some (w64 (sv119 + 1))).bind fun i305 =>
      some (Sum.inl i305))
  else
    Option.map Sum.inr (some false))
noncomputable def ref08_Has (l1 : (List Span)) (x5 : Int) : Option Bool :=
  whileM (ref08_Has_l2 l1 x5) (0)

-- seismonet/seismonetref11.Accept
noncomputable def ref11_Accept (r1 : Receiver) (seq8 : Int) : Option (Receiver × Bool × Int) :=
  (ref11_Valid r1).bind fun rv12 =>
  (if (!rv12) = true then
    some ((⟨([] : List Span), ([] : List Span)⟩ : Receiver), false, 1)
  else
    (ref01_In seq8 0 1073741824).bind fun rv21 =>
    (if (!rv21) = true then
      some ((⟨([] : List Span), ([] : List Span)⟩ : Receiver), false, 2)
    else
      (ref08_Union r1.Got ([(⟨seq8, (w64 (seq8 + 1))⟩ : Span)] : List Span)).bind fun rv32 =>
      (ref08_Minus r1.Lost ([(⟨seq8, (w64 (seq8 + 1))⟩ : Span)] : List Span)).bind fun rv38 =>
      (ref11_limited (⟨rv32, rv38⟩ : Receiver)).bind fun rv44 =>
      (if (rv44.2 != 0) = true then
        some ((⟨([] : List Span), ([] : List Span)⟩ : Receiver), false, rv44.2)
      else
        (ref08_Has r1.Got seq8).bind fun rv111 =>
        some (rv44.1, (!rv111), 0))))

-- (*seismonet/seismonetmade.Dice).Receiver
noncomputable def made_Dice_Receiver_j1 (sv31 : ((List Int) × Int × (List Span) × (List Span) × Int)) (x314 : (List Int)) (x315 : Int) (x316 : (List Span)) (x317 : (List Span)) : Option (((List Int) × Int × (List Span) × (List Span) × Int) ⊕ ((List Int) × Int × (List Span) × (List Span))) :=
  (some (w64 (sv31.2.2.2.2 - 1))).bind fun i319 =>
  some (Sum.inl (x314, x315, x316, x317, i319))
noncomputable def made_Dice_Receiver_l1 (sv31 : ((List Int) × Int × (List Span) × (List Span) × Int)) : Option (((List Int) × Int × (List Span) × (List Span) × Int) ⊕ ((List Int) × Int × (List Span) × (List Span))) :=
  (if (decide (0 < sv31.2.2.2.2)) = true then
    (made_Dice_Next (⟨sv31.1, sv31.2.1⟩ : Dice) 5).bind fun rv269 =>
    (if (rv269.1 == 0) = true then
      (made_Dice_Next rv269.2 10).bind fun rv322 =>
      (ref11_Lose (⟨sv31.2.2.1, sv31.2.2.2.1⟩ : Receiver) rv322.1).bind fun rv327 =>
      made_Dice_Receiver_j1 sv31 rv322.2.L rv322.2.At rv327.1.Got rv327.1.Lost
    else
      (made_Dice_Next rv269.2 14).bind fun rv356 =>
      (ref11_Accept (⟨sv31.2.2.1, sv31.2.2.2.1⟩ : Receiver) rv356.1).bind fun rv361 =>
      made_Dice_Receiver_j1 sv31 rv356.2.L rv356.2.At rv361.1.Got rv361.1.Lost)
  else
    some (Sum.inr (sv31.1, sv31.2.1, sv31.2.2.1, sv31.2.2.2.1)))
noncomputable def made_Dice_Receiver (d1 : Dice) : Option (Receiver × Dice) :=
  (ref11_New).bind fun rv8 =>
  (made_Dice_Next d1 12).bind fun rv22 =>
  (whileM (made_Dice_Receiver_l1) (rv22.2.L, rv22.2.At, rv8.Got, rv8.Lost, rv22.1)).bind fun e208 =>
  some ((⟨e208.2.2.1, e208.2.2.2⟩ : Receiver), (⟨e208.1, e208.2.1⟩ : Dice))

-- seismonet/seismonetref11.Same
noncomputable def ref11_Same (a1 : Receiver) (b8 : Receiver) : Option Bool :=
  (ref08_Same a1.Got b8.Got).bind fun rv18 =>
  ((if rv18 = true then
    (ref08_Same a1.Lost b8.Lost).bind fun rv35 =>
    some rv35
  else
    some false)).bind fun c32 =>
  some c32

-- seismonet/seismonetref11.High
noncomputable def ref11_High_j2 (r1 : Receiver) (high48 : Int) : Option Int :=
  (ref11_Valid r1).bind fun rv50 =>
  (if (!rv50) = true then
    some 0
  else
    some high48)
noncomputable def ref11_High_j1 (r1 : Receiver) (high28 : Int) : Option Int :=
  (some (r1.Lost.length : Int)).bind fun n30 =>
  (if (decide (0 < n30)) = true then
    (ix r1.Lost (w64 (n30 - 1))).bind fun x61 =>
    (some (max high28 x61.To)).bind fun high73 =>
    ref11_High_j2 r1 high73
  else
    ref11_High_j2 r1 high28)
noncomputable def ref11_High (r1 : Receiver) : Option Int :=
  (some (r1.Got.length : Int)).bind fun n10 =>
  (if (decide (0 < n10)) = true then
    (ix r1.Got (w64 (n10 - 1))).bind fun x77 =>
    (some (max 0 x77.To)).bind fun high89 =>
    ref11_High_j1 r1 high89
  else
    ref11_High_j1 r1 0)

-- seismonet/seismonetref11.both
noncomputable def ref11_both (r1 : Receiver) : Option (List Span) :=
  (ref08_Union r1.Got r1.Lost).bind fun rv10 =>
  some rv10

-- seismonet/seismonetref11.Missing
noncomputable def ref11_Missing (r1 : Receiver) (next8 : Int) : Option ((List Span) × Int) :=
  (ref11_Valid r1).bind fun rv11 =>
  (if (!rv11) = true then
    some (([] : List Span), 1)
  else
    (ref01_In next8 0 1073741825).bind fun rv20 =>
    (if (!rv20) = true then
      some (([] : List Span), 2)
    else
      (ref11_High r1).bind fun rv29 =>
      (ref11_both r1).bind fun rv33 =>
      (ref08_Minus ([(⟨0, (max next8 rv29)⟩ : Span)] : List Span) rv33).bind fun rv39 =>
      some (rv39, 0)))

-- seismonet/span.First
noncomputable def span_First_j1 (sv17 : (Int × (List Span) × Int)) (x161 : Span) (x182 : Int) (n183 : Int) : Option ((Int × (List Span) × Int) ⊕ (List Span)) :=
  (appM 16 sv17.2.1 ([(⟨x161.From, x182⟩ : Span)] : List Span)).bind fun l187 =>
  some (Sum.inl (n183, l187, (w64 (sv17.2.2 + 1))))
noncomputable def span_First_l1 (rv7 : (List Span)) (sv17 : (Int × (List Span) × Int)) : Option ((Int × (List Span) × Int) ⊕ (List Span)) :=
  (if (decide (sv17.2.2 < (rv7.length : Int))) = true then
    (ix rv7 sv17.2.2).bind fun x161 =>
    (if (decide (sv17.1 < 1)) = true then
      some (Sum.inr sv17.2.1)
    else
      (some (IntKind.u64.wrap ((IntKind.u64.wrap x161.To) - (IntKind.u64.wrap x161.From)))).bind fun size177 =>
      (if (decide ((IntKind.u64.wrap sv17.1) < size177)) = true then
        span_First_j1 sv17 x161 (w64 (x161.From + sv17.1)) 0
      else
        (some (w64 (sv17.1 - (w64 size177)))).bind fun n193 =>
        span_First_j1 sv17 x161 x161.To n193))
  else
    some (Sum.inr sv17.2.1))
noncomputable def span_First (l1 : (List Span)) (n5 : Int) : Option (List Span) :=
  (span_Normal l1).bind fun rv7 =>
  (whileM (span_First_l1 rv7) (n5, ([] : List Span), 0)).bind fun e122 =>
  some e122

-- seismonet/receiver.Request
noncomputable def receiver_Request (r1 : Receiver) (next8 : Int) (most9 : Int) : Option ((List Span) × Int) :=
  (receiver_Missing r1 next8).bind fun rv12 =>
  (if (rv12.2 != 0) = true then
    some (([] : List Span), rv12.2)
  else
    (receiver_in most9 0 256).bind fun rv25 =>
    (if (!rv25) = true then
      some (([] : List Span), 2)
    else
      (span_First rv12.1 most9).bind fun rv34 =>
      some (rv34, 0)))

-- seismonet/seismonetref08.First
noncomputable def ref08_First_j1 (sv17 : (Int × (List Span) × Int)) (n430 : Int) (out431 : (List Span)) : Option ((Int × (List Span) × Int) ⊕ (List Span)) :=
  (some (w64 (sv17.2.2 + 1))).bind fun i433 =>
  some (Sum.inl (n430, out431, i433))
noncomputable def ref08_First_l1 (rv7 : (List Span)) (sv17 : (Int × (List Span) × Int)) : Option ((Int × (List Span) × Int) ⊕ (List Span)) :=
  (if ((decide (sv17.2.2 < (rv7.length : Int))) && (decide (0 < sv17.1))) = true then
    (ix rv7 sv17.2.2).bind fun x358 =>
    (ix rv7 sv17.2.2).bind fun x371 =>
    (some (IntKind.u64.wrap ((IntKind.u64.wrap x358.To) - (IntKind.u64.wrap x371.From)))).bind fun length379 =>
    (if (decide ((IntKind.u64.wrap sv17.1) < length379)) = true then
      (ix rv7 sv17.2.2).bind fun x437 =>
      (ix rv7 sv17.2.2).bind fun x446 =>
      (appM 16 sv17.2.1 ([(⟨x437.From, (w64 (x446.From + sv17.1))⟩ : Span)] : List Span)).bind fun l456 =>
      ref08_First_j1 sv17 0 l456
    else
      (ix rv7 sv17.2.2).bind fun x463 =>
      (appM 16 sv17.2.1 ([x463] : List Span)).bind fun l473 =>
      (some (w64 (sv17.1 - (w64 length379)))).bind fun n478 =>
      ref08_First_j1 sv17 n478 l473)
  else
    some (Sum.inr sv17.2.1))
noncomputable def ref08_First (l1 : (List Span)) (n5 : Int) : Option (List Span) :=
  (ref08_Normal l1).bind fun rv7 =>
  (whileM (ref08_First_l1 rv7) (n5, ([] : List Span), 0)).bind fun e272 =>
  some e272

-- seismonet/seismonetref11.Request
noncomputable def ref11_Request (r1 : Receiver) (next8 : Int) (most9 : Int) : Option ((List Span) × Int) :=
  (ref11_Missing r1 next8).bind fun rv12 =>
  (if (rv12.2 != 0) = true then
    some (([] : List Span), rv12.2)
  else
    (ref01_In most9 0 256).bind fun rv25 =>
    (if (!rv25) = true then
      some (([] : List Span), 2)
    else
      (ref08_First rv12.1 most9).bind fun rv34 =>
      some (rv34, 0)))

-- seismonet/seismonetref11.Settled
noncomputable def ref11_Settled (r1 : Receiver) : Option Int :=
  (ref11_both r1).bind fun rv10 =>
  (ref11_Valid r1).bind fun rv21 =>
  ((if (rv21 && (decide (0 < (rv10.length : Int)))) = true then
    (ix rv10 0).bind fun x46 =>
    some (x46.From == 0)
  else
    some false)).bind fun c42 =>
  (if c42 = true then
    (ix rv10 0).bind fun x74 =>
    some x74.To
  else
    some 0)

-- seismonet/seismonetlaw11.ReceiverExact
noncomputable def law11_ReceiverExact_l50 (most15 : Int) (x7428 : Receiver) (sv8983 : ((List Int) × Int × Int)) (x9865 : Int) (rv9916 : (Int × Dice)) (sv10082 : Int) : Option (Int ⊕ (((List Int) × Int × Int) ⊕ (((List Int) × Int × Int) ⊕ Bool))) :=
  (if (decide (sv10082 < (([most15, (w64 (rv9916.1 - 1))] : List Int).length : Int))) = true then
    (ix ([most15, (w64 (rv9916.1 - 1))] : List Int) sv10082).bind fun x10292 =>
    (receiver_Request x7428 x9865 x10292).bind fun rv10300 =>
    (ref11_Request x7428 x9865 x10292).bind fun rv10311 =>
    ((if (rv10300.2 != rv10311.2) = true then
      some true
    else
      (ref08_Same rv10300.1 rv10311.1).bind fun rv10332 =>
      some (!rv10332))).bind fun c10329 =>
    (if c10329 = true then
      some (Sum.inr (Sum.inr (Sum.inr false)))
    else
      some (Sum.inl (w64 (sv10082 + 1))))
  else
    Option.map Sum.inr (some (Sum.inl (rv9916.2.L, rv9916.2.At, (w64 (sv8983.2.2 + 1))))))
noncomputable def law11_ReceiverExact_l46 (next14 : Int) (most15 : Int) (sv3258 : ((List Int) × Int × Int)) (x7428 : Receiver) (rv8312 : (Int × Dice)) (sv8983 : ((List Int) × Int × Int)) : Option (((List Int) × Int × Int) ⊕ (((List Int) × Int × Int) ⊕ Bool)) :=
  (if (decide (sv8983.2.2 < (([next14, (w64 (rv8312.1 - 1)), 1073741825] : List Int).length : Int))) = true then
    (ix ([next14, (w64 (rv8312.1 - 1)), 1073741825] : List Int) sv8983.2.2).bind fun x9865 =>
    (receiver_Missing x7428 x9865).bind fun rv9873 =>
    (ref11_Missing x7428 x9865).bind fun rv9884 =>
    ((if (rv9873.2 != rv9884.2) = true then
      some true
    else
      (ref08_Same rv9873.1 rv9884.1).bind fun rv9905 =>
      some (!rv9905))).bind fun c9902 =>
    (if c9902 = true then
      some (Sum.inr (Sum.inr false))
    else
      (made_Dice_Next (⟨sv8983.1, sv8983.2.1⟩ : Dice) 6).bind fun rv9916 =>
      whileM (law11_ReceiverExact_l50 most15 x7428 sv8983 x9865 rv9916) (0))
  else
    Option.map Sum.inr ((receiver_Valid x7428).bind fun rv10346 =>
    (ref11_Valid x7428).bind fun rv10348 =>
    (if (!(rv10346 == rv10348)) = true then
      some true
    else
      (receiver_High x7428).bind fun rv10350 =>
      (ref11_High x7428).bind fun rv10352 =>
      some (rv10350 != rv10352)).bind fun c10353 =>
    (if c10353 = true then
      some true
    else
      (receiver_Settled x7428).bind fun rv10355 =>
      (ref11_Settled x7428).bind fun rv10357 =>
      some (rv10355 != rv10357)).bind fun c10358 =>
    (if c10358 = true then
      some (Sum.inr false)
    else
      some (Sum.inl (sv8983.1, sv8983.2.1, (w64 (sv3258.2.2 + 1)))))))
noncomputable def law11_ReceiverExact_l39 (seq12 : Int) (below13 : Int) (next14 : Int) (most15 : Int) (sv3258 : ((List Int) × Int × Int)) (x7428 : Receiver) (rv7445 : (Int × Dice)) (sv7776 : Int) : Option (Int ⊕ (((List Int) × Int × Int) ⊕ Bool)) :=
  (if (decide (sv7776 < (([seq12, below13, (w64 (rv7445.1 - 1)), 1073741824, 1073741825] : List Int).length : Int))) = true then
    (ix ([seq12, below13, (w64 (rv7445.1 - 1)), 1073741824, 1073741825] : List Int) sv7776).bind fun x8206 =>
    (receiver_Accept x7428 x8206).bind fun rv8214 =>
    (ref11_Accept x7428 x8206).bind fun rv8228 =>
    (receiver_Lose x7428 x8206).bind fun rv8242 =>
    (ref11_Lose x7428 x8206).bind fun rv8256 =>
    ((if ((!(rv8214.2.1 == rv8228.2.1)) || (rv8214.2.2 != rv8228.2.2)) = true then
      some true
    else
      (ref11_Same rv8214.1 rv8228.1).bind fun rv8281 =>
      some (!rv8281))).bind fun c8278 =>
    ((if (c8278 || (rv8242.2 != rv8256.2)) = true then
      some true
    else
      (ref11_Same rv8242.1 rv8256.1).bind fun rv8299 =>
      some (!rv8299))).bind fun c8296 =>
    (if c8296 = true then
      some (Sum.inr (Sum.inr false))
    else
      some (Sum.inl (w64 (sv7776 + 1))))
  else
    Option.map Sum.inr ((made_Dice_Next rv7445.2 20).bind fun rv8312 =>
    whileM (law11_ReceiverExact_l46 next14 most15 sv3258 x7428 rv8312) (rv8312.2.L, rv8312.2.At, 0)))
noncomputable def law11_ReceiverExact_l27 (raw5 : Receiver) (seq12 : Int) (below13 : Int) (next14 : Int) (most15 : Int) (rv53 : (Receiver × Dice)) (l70 : (List Span)) (l92 : (List Span)) (sv3258 : ((List Int) × Int × Int)) : Option (((List Int) × Int × Int) ⊕ Bool) :=
  (if (decide (sv3258.2.2 < (([rv53.1, (⟨l70, l92⟩ : Receiver), raw5] : List Receiver).length : Int))) = true then
    (ix ([rv53.1, (⟨l70, l92⟩ : Receiver), raw5] : List Receiver) sv3258.2.2).bind fun x7428 =>
    (made_Dice_Next (⟨sv3258.1, sv3258.2.1⟩ : Dice) 18).bind fun rv7445 =>
    whileM (law11_ReceiverExact_l39 seq12 below13 next14 most15 sv3258 x7428 rv7445) (0)
  else
    Option.map Sum.inr ((receiver_New).bind fun rv10444 =>
    (ref11_New).bind fun rv10457 =>
    (ref11_Same rv10444 rv10457).bind fun rv10470 =>
    ((if rv10470 = true then
      (law11_sane).bind fun rv10487 =>
      some rv10487
    else
      some false)).bind fun c10484 =>
    some c10484))
noncomputable def law11_ReceiverExact (t1 : (List Int)) (raw5 : Receiver) (seq12 : Int) (below13 : Int) (next14 : Int) (most15 : Int) : Option Bool :=
  (made_Light t1).bind fun rv18 =>
  (if ((!rv18) || (decide (40 < (w64 ((raw5.Got.length : Int) + (raw5.Lost.length : Int)))))) = true then
    (law11_sane).bind fun rv35 =>
    some rv35
  else
    (made_Roll t1).bind fun rv42 =>
    (made_Dice_Receiver rv42).bind fun rv53 =>
    (appM 16 ([] : List Span) rv53.1.Got).bind fun l70 =>
    (appM 16 ([] : List Span) rv53.1.Lost).bind fun l75 =>
    (made_Dice_Next rv53.2 20).bind fun rv80 =>
    (made_Dice_Next rv80.2 30).bind fun rv85 =>
    (appM 16 l75 ([(⟨rv80.1, rv85.1⟩ : Span)] : List Span)).bind fun l92 =>
    whileM (law11_ReceiverExact_l27 raw5 seq12 below13 next14 most15 rv53 l70 l92) (rv85.2.L, rv85.2.At, 0))

-- seismonet/seismonetlaw11.ReceiverOnce
noncomputable def law11_ReceiverOnce_j1 (sv455 : ((List Int) × Int × (List Span) × (List Span) × (Mp Bool) × Int)) (x980 : (List Int)) (x981 : Int) (x982 : (List Span)) (x983 : (List Span)) (m984 : (Mp Bool)) : Option (((List Int) × Int × (List Span) × (List Span) × (Mp Bool) × Int) ⊕ Bool) :=
  (some (w64 (sv455.2.2.2.2.2 + 1))).bind fun i986 =>
  some (Sum.inl (x980, x981, x982, x983, m984, i986))
noncomputable def law11_ReceiverOnce_l4 (sv455 : ((List Int) × Int × (List Span) × (List Span) × (Mp Bool) × Int)) (sv1178 : Int) : Option (Int ⊕ Bool) :=
  (if (decide (sv1178 < 16)) = true then
    (ref08_Has sv455.2.2.1 sv1178).bind fun rv1221 =>
    (Mp.get sv455.2.2.2.2.1 sv1178).bind fun g1223 =>
    (if (!(rv1221 == g1223)) = true then
      some (Sum.inr false)
    else
      (some (w64 (sv1178 + 1))).bind fun k1234 =>
      some (Sum.inl k1234))
  else
    Option.map Sum.inr ((law11_sane).bind fun rv1236 =>
    some rv1236))
noncomputable def law11_ReceiverOnce_l2 (sv455 : ((List Int) × Int × (List Span) × (List Span) × (Mp Bool) × Int)) : Option (((List Int) × Int × (List Span) × (List Span) × (Mp Bool) × Int) ⊕ Bool) :=
  (if (decide (sv455.2.2.2.2.2 < 20)) = true then
    (made_Dice_Next (⟨sv455.1, sv455.2.1⟩ : Dice) 5).bind fun rv988 =>
    (if (rv988.1 == 0) = true then
      (made_Dice_Next rv988.2 14).bind fun rv1016 =>
      (receiver_Lose (⟨sv455.2.2.1, sv455.2.2.2.1⟩ : Receiver) rv1016.1).bind fun rv1021 =>
      (if (rv1021.2 != 0) = true then
        some (Sum.inr false)
      else
        law11_ReceiverOnce_j1 sv455 rv1016.2.L rv1016.2.At rv1021.1.Got rv1021.1.Lost sv455.2.2.2.2.1)
    else
      (made_Dice_Next rv988.2 14).bind fun rv1059 =>
      (receiver_Accept (⟨sv455.2.2.1, sv455.2.2.2.1⟩ : Receiver) rv1059.1).bind fun rv1069 =>
      ((if (rv1069.2.2 != 0) = true then
        some true
      else
        (Mp.get sv455.2.2.2.2.1 rv1059.1).bind fun g1088 =>
        some (rv1069.2.1 == g1088))).bind fun c1085 =>
      ((if c1085 = true then
        some true
      else
        (ref08_Has rv1069.1.Got rv1059.1).bind fun rv1100 =>
        some (!rv1100))).bind fun c1097 =>
      ((if c1097 = true then
        some true
      else
        (ref08_Has rv1069.1.Lost rv1059.1).bind fun rv1117 =>
        some rv1117)).bind fun c1114 =>
      ((if c1114 = true then
        some true
      else
        (receiver_Valid rv1069.1).bind fun rv1134 =>
        some (!rv1134))).bind fun c1131 =>
      (if c1131 = true then
        some (Sum.inr false)
      else
        (Mp.put sv455.2.2.2.2.1 rv1059.1 true).bind fun m1144 =>
        law11_ReceiverOnce_j1 sv455 rv1059.2.L rv1059.2.At rv1069.1.Got rv1069.1.Lost m1144))
  else
    Option.map Sum.inr (whileM (law11_ReceiverOnce_l4 sv455) (0)))
noncomputable def law11_ReceiverOnce (t1 : (List Int)) : Option Bool :=
  (made_Light t1).bind fun rv6 =>
  (if (!rv6) = true then
    (law11_sane).bind fun rv22 =>
    some rv22
  else
    (made_Roll t1).bind fun rv29 =>
    (receiver_New).bind fun rv40 =>
    whileM (law11_ReceiverOnce_l2) (rv29.L, rv29.At, rv40.Got, rv40.Lost, (⟨0, fun _ => false⟩ : Mp Bool), 0))

end Go.Proofs.Ytiihddcppmjbaaa.Sh

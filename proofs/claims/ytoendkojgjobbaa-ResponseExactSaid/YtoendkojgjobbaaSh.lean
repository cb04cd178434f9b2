/- Each Go function as a plain program over lists and numbers (none: a panic, or no end). Printed by a program of ours out of the translation. -/
import Derived.Test.YtoendkojgjobbaaShData
namespace Go.Proofs.Ytoendkojgjobbaa.Sh
open Go
set_option linter.unusedVariables false

-- seismonet/seismonetmade.Light
noncomputable def made_Light (l1 : (List Int)) : Option Bool :=
  some (decide ((l1.length : Int) ≤ 500))

-- slices.IndexFunc[[]seismonet/api.Stage,seismonet/api.Stage]
noncomputable def slices_IndexFunc_Lapi_Stage_api_Stage_l2 (s1 : (List Stage)) (f5 : Stage → Option Bool) (sv90 : Int) : Option (Int ⊕ Int) :=
  (if (decide (sv90 < (s1.length : Int))) = true then
    (ix s1 sv90).bind fun x200 =>
    (f5 x200).bind fun rv216 =>
    (if rv216 = true then
      some (Sum.inr sv90)
    else
      some (Sum.inl (w64 (sv90 + 1))))
  else
    Option.map Sum.inr (some (-1)))
noncomputable def slices_IndexFunc_Lapi_Stage_api_Stage (s1 : (List Stage)) (f5 : Stage → Option Bool) : Option Int :=
  whileM (slices_IndexFunc_Lapi_Stage_api_Stage_l2 s1 f5) (0)

-- slices.ContainsFunc[[]seismonet/api.Stage,seismonet/api.Stage]
noncomputable def slices_ContainsFunc_Lapi_Stage_api_Stage (s1 : (List Stage)) (f5 : Stage → Option Bool) : Option Bool :=
  (slices_IndexFunc_Lapi_Stage_api_Stage s1 f5).bind fun rv11 =>
  some (decide (0 ≤ rv11))

-- seismonet/response.in
noncomputable def response_in (n1 : Int) (low2 : Int) (high3 : Int) : Option Bool :=
  some ((decide (low2 ≤ n1)) && (decide (n1 ≤ high3)))

-- slices.IndexFunc[[]int,int]
noncomputable def slices_IndexFunc_Lint_int_l2 (s1 : (List Int)) (f5 : Int → Option Bool) (sv78 : Int) : Option (Int ⊕ Int) :=
  (if (decide (sv78 < (s1.length : Int))) = true then
    (ix s1 sv78).bind fun x172 =>
    (f5 x172).bind fun rv184 =>
    (if rv184 = true then
      some (Sum.inr sv78)
    else
      some (Sum.inl (w64 (sv78 + 1))))
  else
    Option.map Sum.inr (some (-1)))
noncomputable def slices_IndexFunc_Lint_int (s1 : (List Int)) (f5 : Int → Option Bool) : Option Int :=
  whileM (slices_IndexFunc_Lint_int_l2 s1 f5) (0)

-- slices.ContainsFunc[[]int,int]
noncomputable def slices_ContainsFunc_Lint_int (s1 : (List Int)) (f5 : Int → Option Bool) : Option Bool :=
  (slices_IndexFunc_Lint_int s1 f5).bind fun rv11 =>
  some (decide (0 ≤ rv11))

-- seismonet/response.terms$1
noncomputable def response_terms_fn1 (n1 : Int) : Option Bool :=
  (response_in n1 (-1048576) 1048576).bind fun rv3 =>
  some (!rv3)

-- seismonet/response.terms
noncomputable def response_terms (l1 : (List Int)) : Option Bool :=
  (slices_ContainsFunc_Lint_int l1 response_terms_fn1).bind fun rv6 =>
  some (!rv6)

-- seismonet/response.sum
noncomputable def response_sum_l1 (l1 : (List Int)) (sv5 : (Int × Int)) : Option ((Int × Int) ⊕ Int) :=
  (if (decide (sv5.2 < (l1.length : Int))) = true then
    (ix l1 sv5.2).bind fun x80 =>
    (some (w64 (sv5.1 + x80))).bind fun n92 =>
    some (Sum.inl (n92, (w64 (sv5.2 + 1))))
  else
    some (Sum.inr sv5.1))
noncomputable def response_sum (l1 : (List Int)) : Option Int :=
  (whileM (response_sum_l1 l1) (0, 0)).bind fun e59 =>
  some e59

-- seismonet/response.ValidStage
noncomputable def response_ValidStage (s1 : Stage) : Option Bool :=
  (if (s1.Kind == 0) = true then
    ((if ((((((s1.Taps.length : Int) == 0) && (s1.Factor == 0)) && (s1.Shift == 0)) && ((s1.Num.e0 == s1.Num.e0) && ((s1.Num.e1 == 0) && ((s1.Num.e2 == 0) && true)))) && ((s1.Den.e0 == s1.Den.e0) && ((s1.Den.e1 == 0) && ((s1.Den.e2 == 0) && true)))) = true then
      (response_in s1.Num.e0 1 1048576).bind fun rv356 =>
      some rv356
    else
      some false)).bind fun c353 =>
    ((if c353 = true then
      (response_in s1.Den.e0 1 1048576).bind fun rv373 =>
      some rv373
    else
      some false)).bind fun c370 =>
    some c370
  else
    (if (s1.Kind == 1) = true then
      ((if ((((s1.Taps.length : Int) == 0) && (s1.Factor == 0)) && (s1.Shift == 0)) = true then
        (response_terms ([s1.Num.e0, s1.Num.e1, s1.Num.e2] : List Int)).bind fun rv523 =>
        some rv523
      else
        some false)).bind fun c519 =>
      ((if c519 = true then
        (response_terms ([s1.Den.e0, s1.Den.e1, s1.Den.e2] : List Int)).bind fun rv541 =>
        some rv541
      else
        some false)).bind fun c538 =>
      some (c538 && (s1.Den.e0 != 0))
    else
      (if (s1.Kind == 2) = true then
        ((if (((s1.Num.e0 == 0) && ((s1.Num.e1 == 0) && ((s1.Num.e2 == 0) && true))) && ((s1.Den.e0 == 0) && ((s1.Den.e1 == 0) && ((s1.Den.e2 == 0) && true)))) = true then
          (response_in (s1.Taps.length : Int) 1 128).bind fun rv650 =>
          some rv650
        else
          some false)).bind fun c647 =>
        ((if c647 = true then
          (response_terms s1.Taps).bind fun rv667 =>
          some rv667
        else
          some false)).bind fun c664 =>
        ((if c664 = true then
          (response_sum s1.Taps).bind fun rv684 =>
          some (rv684 != 0)
        else
          some false)).bind fun c681 =>
        ((if c681 = true then
          (response_in s1.Factor 1 64).bind fun rv701 =>
          some rv701
        else
          some false)).bind fun c698 =>
        ((if c698 = true then
          (response_in s1.Shift 0 40).bind fun rv718 =>
          some rv718
        else
          some false)).bind fun c715 =>
        some c715
      else
        some false)))

-- seismonet/response.Valid$1
noncomputable def response_Valid_fn1 (s1 : Stage) : Option Bool :=
  (response_ValidStage s1).bind fun rv7 =>
  some (!rv7)

-- seismonet/response.factor
noncomputable def response_factor_j1 (sv85 : (Int × Int)) (n192 : Int) : Option ((Int × Int) ⊕ Int) :=
  some (Sum.inl (n192, (w64 (sv85.2 + 1))))
noncomputable def response_factor_l2 (l1 : (List Stage)) (sv85 : (Int × Int)) : Option ((Int × Int) ⊕ Int) :=
  (if (decide (sv85.2 < (l1.length : Int))) = true then
    (ix l1 sv85.2).bind fun x195 =>
    (if (x195.Kind != 2) = true then
      response_factor_j1 sv85 sv85.1
    else
      (some (w64 (sv85.1 * x195.Factor))).bind fun n214 =>
      (if (decide (64 < n214)) = true then
        some (Sum.inr 0)
      else
        response_factor_j1 sv85 n214))
  else
    Option.map Sum.inr (some sv85.1))
noncomputable def response_factor (l1 : (List Stage)) : Option Int :=
  whileM (response_factor_l2 l1) (1, 0)

-- seismonet/response.Valid
noncomputable def response_Valid (r1 : Response) : Option Bool :=
  ((if (decide (8 < (r1.Stages.length : Int))) = true then
    some true
  else
    (slices_ContainsFunc_Lapi_Stage_api_Stage r1.Stages response_Valid_fn1).bind fun rv17 =>
    some rv17)).bind fun c14 =>
  (if c14 = true then
    some false
  else
    (response_factor r1.Stages).bind fun rv26 =>
    some (decide (0 < rv26)))

-- seismonet/nat.From
noncomputable def nat_From_l1 (sv4 : (Int × (List Int))) : Option ((Int × (List Int)) ⊕ (List Int)) :=
  (if (decide (0 < sv4.1)) = true then
    (appM 8 sv4.2 ([(Int.tmod sv4.1 1073741824)] : List Int)).bind fun l63 =>
    (shrM .i64 sv4.1 30).bind fun shr68 =>
    some (Sum.inl (shr68, l63))
  else
    some (Sum.inr sv4.2))
noncomputable def nat_From (n1 : Int) : Option ((List Int) × Int) :=
  (if (decide (n1 < 0)) = true then
    some (([] : List Int), 2)
  else
    (whileM (nat_From_l1) (n1, ([] : List Int))).bind fun e46 =>
    some (e46, 0))

-- slices.IndexFunc[seismonet/api.Nat,int]
noncomputable def slices_IndexFunc_api_Nat_int_l2 (s1 : (List Int)) (f5 : Int → Option Bool) (sv78 : Int) : Option (Int ⊕ Int) :=
  (if (decide (sv78 < (s1.length : Int))) = true then
    (ix s1 sv78).bind fun x172 =>
    (f5 x172).bind fun rv184 =>
    (if rv184 = true then
      some (Sum.inr sv78)
    else
      some (Sum.inl (w64 (sv78 + 1))))
  else
    Option.map Sum.inr (some (-1)))
noncomputable def slices_IndexFunc_api_Nat_int (s1 : (List Int)) (f5 : Int → Option Bool) : Option Int :=
  whileM (slices_IndexFunc_api_Nat_int_l2 s1 f5) (0)

-- slices.ContainsFunc[seismonet/api.Nat,int]
noncomputable def slices_ContainsFunc_api_Nat_int (s1 : (List Int)) (f5 : Int → Option Bool) : Option Bool :=
  (slices_IndexFunc_api_Nat_int s1 f5).bind fun rv11 =>
  some (decide (0 ≤ rv11))

-- seismonet/nat.Valid$1
noncomputable def nat_Valid_fn1 (x1 : Int) : Option Bool :=
  some ((decide (x1 < 0)) || (decide (1073741824 ≤ x1)))

-- seismonet/nat.Valid
noncomputable def nat_Valid (n1 : (List Int)) : Option Bool :=
  ((if (decide (64 < (n1.length : Int))) = true then
    some true
  else
    ((if (decide (0 < (n1.length : Int))) = true then
      (ix n1 (w64 ((n1.length : Int) - 1))).bind fun x55 =>
      some (x55 == 0)
    else
      some false)).bind fun c51 =>
    some c51)).bind fun c35 =>
  (if c35 = true then
    some false
  else
    (slices_ContainsFunc_api_Nat_int n1 nat_Valid_fn1).bind fun rv69 =>
    some (!rv69))

-- seismonet/nat.both
noncomputable def nat_both (a1 : (List Int)) (b5 : (List Int)) : Option Bool :=
  (nat_Valid a1).bind fun rv10 =>
  ((if rv10 = true then
    (nat_Valid b5).bind fun rv27 =>
    some rv27
  else
    some false)).bind fun c24 =>
  some c24

-- seismonet/nat.digit
noncomputable def nat_digit (n1 : (List Int)) (i5 : Int) : Option Int :=
  (if (decide ((n1.length : Int) ≤ i5)) = true then
    some 0
  else
    (ix n1 i5).bind fun x10 =>
    some x10)

-- seismonet/nat.trim
noncomputable def nat_trim_l1 (sv5 : (List Int)) : Option ((List Int) ⊕ (List Int)) :=
  ((if (decide (0 < (sv5.length : Int))) = true then
    (ix sv5 (w64 ((sv5.length : Int) - 1))).bind fun x145 =>
    some (x145 == 0)
  else
    some false)).bind fun c141 =>
  (if c141 = true then
    (subM sv5 0 (w64 ((sv5.length : Int) - 1))).bind fun l169 =>
    some (Sum.inl l169)
  else
    some (Sum.inr sv5))
noncomputable def nat_trim (n1 : (List Int)) : Option (List Int) :=
  (whileM (nat_trim_l1) (n1)).bind fun e123 =>
  some e123

-- seismonet/nat.multiply
noncomputable def nat_multiply_j1 (sv660 : ((List Int) × Int × Int)) (out880 : (List Int)) (carry881 : Int) : Option (((List Int) × Int × Int) ⊕ (List Int)) :=
  some (Sum.inl (out880, carry881, (w64 (sv660.2.2 + 1))))
noncomputable def nat_multiply_l6 (b5 : (List Int)) (sv13 : ((List Int) × Int)) (x649 : Int) (sv660 : ((List Int) × Int × Int)) : Option (((List Int) × Int × Int) ⊕ (List Int)) :=
  (if (decide (sv660.2.2 < (w64 ((b5.length : Int) + 1)))) = true then
    (if (decide ((w64 (sv13.2 + sv660.2.2)) < (sv660.1.length : Int))) = true then
      (ix sv660.1 (w64 (sv13.2 + sv660.2.2))).bind fun x885 =>
      (nat_digit b5 sv660.2.2).bind fun rv897 =>
      (some (w64 (sv660.2.1 + (w64 (x885 + (w64 (x649 * rv897))))))).bind fun carry899 =>
      (ix sv660.1 (w64 (sv13.2 + sv660.2.2))).bind fun x908 =>
      (setM sv660.1 (w64 (sv13.2 + sv660.2.2)) (Int.tmod carry899 1073741824)).bind fun l916 =>
      (shrM .i64 carry899 30).bind fun shr920 =>
      nat_multiply_j1 sv660 l916 shr920
    else
      nat_multiply_j1 sv660 sv660.1 sv660.2.1)
  else
    some (Sum.inr sv660.1))
noncomputable def nat_multiply_l3 (a1 : (List Int)) (b5 : (List Int)) (sv13 : ((List Int) × Int)) : Option (((List Int) × Int) ⊕ (List Int)) :=
  (if (decide (sv13.2 < (a1.length : Int))) = true then
    (ix a1 sv13.2).bind fun x649 =>
    (whileM (nat_multiply_l6 b5 sv13 x649) (sv13.1, 0, 0)).bind fun e795 =>
    some (Sum.inl (e795, (w64 (sv13.2 + 1))))
  else
    some (Sum.inr sv13.1))
noncomputable def nat_multiply (a1 : (List Int)) (b5 : (List Int)) : Option (List Int) :=
  (makeM 8 (0 : Int) (w64 ((a1.length : Int) + (b5.length : Int)))).bind fun l10 =>
  (whileM (nat_multiply_l3 a1 b5) (l10, 0)).bind fun e487 =>
  (nat_trim e487).bind fun rv925 =>
  some rv925

-- seismonet/nat.limited
noncomputable def nat_limited (n1 : (List Int)) : Option ((List Int) × Int) :=
  (nat_trim n1).bind fun rv6 =>
  (if (decide (64 < (rv6.length : Int))) = true then
    some (([] : List Int), 8)
  else
    some (rv6, 0))

-- seismonet/nat.Mul
noncomputable def nat_Mul (a1 : (List Int)) (b5 : (List Int)) : Option ((List Int) × Int) :=
  (nat_both a1 b5).bind fun rv10 =>
  (if (!rv10) = true then
    some (([] : List Int), 1)
  else
    (nat_multiply a1 b5).bind fun rv19 =>
    (nat_limited rv19).bind fun rv29 =>
    some (rv29.1, rv29.2))

-- seismonet/response.square
noncomputable def response_square (n1 : Int) : Option (List Int) :=
  (nat_From (max n1 (w64 (0 - n1)))).bind fun rv3 =>
  (nat_Mul rv3.1 rv3.1).bind fun rv14 =>
  some rv14.1

-- seismonet/nat.Add
noncomputable def nat_Add_l1 (a1 : (List Int)) (b5 : (List Int)) (sv18 : ((List Int) × Int × Int)) : Option (((List Int) × Int × Int) ⊕ (List Int)) :=
  (if (decide (sv18.2.2 < (w64 ((max (a1.length : Int) (b5.length : Int)) + 1)))) = true then
    (nat_digit a1 sv18.2.2).bind fun rv141 =>
    (nat_digit b5 sv18.2.2).bind fun rv148 =>
    (some (w64 (sv18.2.1 + (w64 (rv141 + rv148))))).bind fun carry155 =>
    (appM 8 sv18.1 ([(Int.tmod carry155 1073741824)] : List Int)).bind fun l159 =>
    (shrM .i64 carry155 30).bind fun shr164 =>
    some (Sum.inl (l159, shr164, (w64 (sv18.2.2 + 1))))
  else
    some (Sum.inr sv18.1))
noncomputable def nat_Add (a1 : (List Int)) (b5 : (List Int)) : Option ((List Int) × Int) :=
  (nat_both a1 b5).bind fun rv10 =>
  (if (!rv10) = true then
    some (([] : List Int), 1)
  else
    (whileM (nat_Add_l1 a1 b5) (([] : List Int), 0, 0)).bind fun e108 =>
    (nat_limited e108).bind fun rv167 =>
    some (rv167.1, rv167.2))

-- seismonet/response.squared
noncomputable def response_squared (a1 : (Arr3 Int)) (num2 : Int) (den3 : Int) : Option (List Int) :=
  (response_square (w64 ((w64 ((w64 (a1.e0 * den3)) * den3)) - (w64 ((w64 (a1.e2 * num2)) * num2))))).bind fun rv6 =>
  (response_square (w64 ((w64 (a1.e1 * num2)) * den3))).bind fun rv11 =>
  (nat_Add rv6 rv11).bind fun rv16 =>
  some rv16.1

-- seismonet/response.gain
noncomputable def response_gain (s1 : Stage) (num5 : Int) (den6 : Int) : Option (Fraction × Bool) :=
  (if (s1.Kind == 0) = true then
    (response_square s1.Num.e0).bind fun rv63 =>
    (response_square s1.Den.e0).bind fun rv68 =>
    some ((⟨rv63, rv68⟩ : Fraction), true)
  else
    (if (s1.Kind == 1) = true then
      (response_squared s1.Num num5 den6).bind fun rv99 =>
      (response_squared s1.Den num5 den6).bind fun rv104 =>
      some ((⟨rv99, rv104⟩ : Fraction), (decide (0 < (rv104.length : Int))))
    else
      (response_sum s1.Taps).bind fun rv137 =>
      (response_square rv137).bind fun rv139 =>
      (shlM .i64 1 s1.Shift).bind fun shl144 =>
      (response_square shl144).bind fun rv146 =>
      some ((⟨rv139, rv146⟩ : Fraction), true)))

-- seismonet/nat.ValidFraction
noncomputable def nat_ValidFraction (f1 : Fraction) : Option Bool :=
  (nat_Valid f1.Num).bind fun rv10 =>
  ((if rv10 = true then
    (nat_Valid f1.Den).bind fun rv27 =>
    some rv27
  else
    some false)).bind fun c24 =>
  some (c24 && (decide (0 < (f1.Den.length : Int))))

-- seismonet/nat.Times
noncomputable def nat_Times (a1 : Fraction) (b8 : Fraction) : Option (Fraction × Int) :=
  (nat_ValidFraction a1).bind fun rv19 =>
  ((if (!rv19) = true then
    some true
  else
    (nat_ValidFraction b8).bind fun rv36 =>
    some (!rv36))).bind fun c33 =>
  (if c33 = true then
    some ((⟨([] : List Int), ([] : List Int)⟩ : Fraction), 1)
  else
    (nat_multiply a1.Num b8.Num).bind fun rv45 =>
    (nat_limited rv45).bind fun rv55 =>
    (nat_multiply a1.Den b8.Den).bind fun rv65 =>
    (nat_limited rv65).bind fun rv75 =>
    (if ((rv55.2 != 0) || (rv75.2 != 0)) = true then
      some ((⟨([] : List Int), ([] : List Int)⟩ : Fraction), 8)
    else
      some ((⟨rv55.1, rv75.1⟩ : Fraction), 0)))

-- seismonet/response.Gain
noncomputable def response_Gain_l2 (r1 : Response) (num5 : Int) (den6 : Int) (sv210 : ((List Int) × (List Int) × Int)) : Option (((List Int) × (List Int) × Int) ⊕ (Fraction × Int)) :=
  (if (decide (sv210.2.2 < (r1.Stages.length : Int))) = true then
    (ix r1.Stages sv210.2.2).bind fun x424 =>
    (response_gain x424 num5 den6).bind fun rv441 =>
    (if (!rv441.2) = true then
      some (Sum.inr ((⟨([] : List Int), ([] : List Int)⟩ : Fraction), 11))
    else
      (nat_Times (⟨sv210.1, sv210.2.1⟩ : Fraction) rv441.1).bind fun rv458 =>
      (if (rv458.2 != 0) = true then
        some (Sum.inr ((⟨([] : List Int), ([] : List Int)⟩ : Fraction), rv458.2))
      else
        some (Sum.inl (rv458.1.Num, rv458.1.Den, (w64 (sv210.2.2 + 1))))))
  else
    Option.map Sum.inr (some ((⟨sv210.1, sv210.2.1⟩ : Fraction), 0)))
noncomputable def response_Gain (r1 : Response) (num5 : Int) (den6 : Int) : Option (Fraction × Int) :=
  (response_Valid r1).bind fun rv10 =>
  (if (!rv10) = true then
    some ((⟨([] : List Int), ([] : List Int)⟩ : Fraction), 1)
  else
    (response_in num5 0 65536).bind fun rv19 =>
    ((if (!rv19) = true then
      some true
    else
      (response_in den6 1 65536).bind fun rv36 =>
      some (!rv36))).bind fun c33 =>
    (if c33 = true then
      some ((⟨([] : List Int), ([] : List Int)⟩ : Fraction), 2)
    else
      whileM (response_Gain_l2 r1 num5 den6) (([1] : List Int), ([1] : List Int), 0)))

-- seismonet/seismonetref01.In
noncomputable def ref01_In (n1 : Int) (lo2 : Int) (hi3 : Int) : Option Bool :=
  some ((decide (lo2 ≤ n1)) && (decide (n1 ≤ hi3)))

-- seismonet/seismonetref17.Valid
noncomputable def ref17_Valid_l2 (n1 : (List Int)) (sv82 : Int) : Option (Int ⊕ Bool) :=
  (if (decide (sv82 < (n1.length : Int))) = true then
    (ix n1 sv82).bind fun x186 =>
    (ref01_In x186 0 1073741823).bind fun rv198 =>
    (if (!rv198) = true then
      some (Sum.inr false)
    else
      (some (w64 (sv82 + 1))).bind fun i208 =>
      some (Sum.inl i208))
  else
    Option.map Sum.inr (((if (decide ((n1.length : Int) ≤ 64)) = true then
      ((if ((n1.length : Int) == 0) = true then
        some true
      else
        (ix n1 (w64 ((n1.length : Int) - 1))).bind fun x259 =>
        some (x259 != 0))).bind fun c255 =>
      some c255
    else
      some false)).bind fun c239 =>
    some c239))
noncomputable def ref17_Valid (n1 : (List Int)) : Option Bool :=
  whileM (ref17_Valid_l2 n1) (0)

-- seismonet/seismonetref17.ValidFraction
noncomputable def ref17_ValidFraction (f1 : Fraction) : Option Bool :=
  (ref17_Valid f1.Num).bind fun rv10 =>
  ((if rv10 = true then
    (ref17_Valid f1.Den).bind fun rv27 =>
    some rv27
  else
    some false)).bind fun c24 =>
  some (c24 && (decide (0 < (f1.Den.length : Int))))

-- seismonet/seismonetref17.trim
noncomputable def ref17_trim_l1 (sv5 : (List Int)) : Option ((List Int) ⊕ (List Int)) :=
  ((if (decide (0 < (sv5.length : Int))) = true then
    (ix sv5 (w64 ((sv5.length : Int) - 1))).bind fun x145 =>
    some (x145 == 0)
  else
    some false)).bind fun c141 =>
  (if c141 = true then
    (subM sv5 0 (w64 ((sv5.length : Int) - 1))).bind fun l169 =>
    some (Sum.inl l169)
  else
    some (Sum.inr sv5))
noncomputable def ref17_trim (n1 : (List Int)) : Option (List Int) :=
  (whileM (ref17_trim_l1) (n1)).bind fun e123 =>
  some e123

-- seismonet/seismonetref17.mul
noncomputable def ref17_mul_j1 (sv13 : ((List Int) × Int)) (sv913 : ((List Int) × Int × Int)) (carry1242 : Int) : Option (((List Int) × Int × Int) ⊕ (List Int)) :=
  (ix sv913.1 (w64 (sv13.2 + sv913.2.2))).bind fun x1245 =>
  (setM sv913.1 (w64 (sv13.2 + sv913.2.2)) (Int.tmod carry1242 1073741824)).bind fun l1253 =>
  (some (w64 (Int.tdiv carry1242 1073741824))).bind fun carry1257 =>
  (some (w64 (sv913.2.2 + 1))).bind fun k1259 =>
  some (Sum.inl (l1253, carry1257, k1259))
noncomputable def ref17_mul_l6 (a1 : (List Int)) (b5 : (List Int)) (sv13 : ((List Int) × Int)) (sv913 : ((List Int) × Int × Int)) : Option (((List Int) × Int × Int) ⊕ (List Int)) :=
  (if ((decide (sv913.2.2 < (b5.length : Int))) || (decide (0 < sv913.2.1))) = true then
    (ix sv913.1 (w64 (sv13.2 + sv913.2.2))).bind fun x1198 =>
    (some (w64 (sv913.2.1 + x1198))).bind fun carry1210 =>
    (if (decide (sv913.2.2 < (b5.length : Int))) = true then
      (ix a1 sv13.2).bind fun x1263 =>
      (ix b5 sv913.2.2).bind fun x1276 =>
      (some (w64 (carry1210 + (w64 (x1263 * x1276))))).bind fun carry1288 =>
      ref17_mul_j1 sv13 sv913 carry1288
    else
      ref17_mul_j1 sv13 sv913 carry1210)
  else
    some (Sum.inr sv913.1))
noncomputable def ref17_mul_l3 (a1 : (List Int)) (b5 : (List Int)) (sv13 : ((List Int) × Int)) : Option (((List Int) × Int) ⊕ (List Int)) :=
  (if (decide (sv13.2 < (a1.length : Int))) = true then
    (whileM (ref17_mul_l6 a1 b5 sv13) (sv13.1, 0, 0)).bind fun e1126 =>
    (some (w64 (sv13.2 + 1))).bind fun i1293 =>
    some (Sum.inl (e1126, i1293))
  else
    some (Sum.inr sv13.1))
noncomputable def ref17_mul (a1 : (List Int)) (b5 : (List Int)) : Option (List Int) :=
  (makeM 8 (0 : Int) (w64 ((a1.length : Int) + (b5.length : Int)))).bind fun l10 =>
  (whileM (ref17_mul_l3 a1 b5) (l10, 0)).bind fun e688 =>
  (ref17_trim e688).bind fun rv1297 =>
  some rv1297

-- seismonet/seismonetref17.compare
noncomputable def ref17_compare_l2 (a1 : (List Int)) (b5 : (List Int)) (sv168 : Int) : Option (Int ⊕ Int) :=
  (if (decide (0 ≤ sv168)) = true then
    (ix a1 sv168).bind fun x372 =>
    (ix b5 sv168).bind fun x385 =>
    (if (x372 != x385) = true then
      (ix a1 sv168).bind fun x419 =>
      (ix b5 sv168).bind fun x427 =>
      (if (decide (x419 < x427)) = true then
        some (Sum.inr (-1))
      else
        some (Sum.inr 1))
    else
      (some (w64 (sv168 - 1))).bind fun i439 =>
      some (Sum.inl i439))
  else
    Option.map Sum.inr (some 0))
noncomputable def ref17_compare (a1 : (List Int)) (b5 : (List Int)) : Option Int :=
  (if ((a1.length : Int) != (b5.length : Int)) = true then
    (if (decide ((a1.length : Int) < (b5.length : Int))) = true then
      some (-1)
    else
      some 1)
  else
    (some (w64 ((a1.length : Int) - 1))).bind fun i15 =>
    whileM (ref17_compare_l2 a1 b5) (i15))

-- seismonet/seismonetref17.Equal
noncomputable def ref17_Equal (a1 : Fraction) (b8 : Fraction) : Option (Bool × Int) :=
  (ref17_ValidFraction a1).bind fun rv18 =>
  ((if (!rv18) = true then
    some true
  else
    (ref17_ValidFraction b8).bind fun rv35 =>
    some (!rv35))).bind fun c32 =>
  (if c32 = true then
    some (false, 1)
  else
    (ref17_mul a1.Num b8.Den).bind fun rv44 =>
    (ref17_mul b8.Num a1.Den).bind fun rv49 =>
    (ref17_compare rv44 rv49).bind fun rv54 =>
    some ((rv54 == 0), 0))

-- seismonet/rate.in
noncomputable def rate_in (n1 : Int) (low2 : Int) (high3 : Int) : Option Bool :=
  some ((decide (low2 ≤ n1)) && (decide (n1 ≤ high3)))

-- seismonet/rate.gcd
noncomputable def rate_gcd_l1 (sv3 : (Int × Int)) : Option ((Int × Int) ⊕ Int) :=
  (if (sv3.2 != 0) = true then
    (remM sv3.1 sv3.2).bind fun rem29 =>
    some (Sum.inl (sv3.2, rem29))
  else
    some (Sum.inr sv3.1))
noncomputable def rate_gcd (a1 : Int) (b2 : Int) : Option Int :=
  (whileM (rate_gcd_l1) (a1, b2)).bind fun e21 =>
  some e21

-- seismonet/rate.Valid
noncomputable def rate_Valid (r1 : Rate) : Option Bool :=
  (rate_in r1.Num 1 4096).bind fun rv4 =>
  ((if rv4 = true then
    (rate_in r1.Den 1 4096).bind fun rv21 =>
    some rv21
  else
    some false)).bind fun c18 =>
  ((if c18 = true then
    (rate_gcd r1.Num r1.Den).bind fun rv38 =>
    some (rv38 == 1)
  else
    some false)).bind fun c35 =>
  some c35

-- seismonet/response.symmetric
noncomputable def response_symmetric_l2 (l1 : (List Int)) (sv82 : Int) : Option (Int ⊕ Bool) :=
  (if (decide (sv82 < (l1.length : Int))) = true then
    (ix l1 sv82).bind fun x188 =>
    (ix l1 (w64 ((w64 ((l1.length : Int) - 1)) - sv82))).bind fun x201 =>
    (if (x188 != x201) = true then
      some (Sum.inr false)
    else
      some (Sum.inl (w64 (sv82 + 1))))
  else
    Option.map Sum.inr (some true))
noncomputable def response_symmetric (l1 : (List Int)) : Option Bool :=
  whileM (response_symmetric_l2 l1) (0)

-- seismonet/response.gcd
noncomputable def response_gcd_l1 (sv3 : (Int × Int)) : Option ((Int × Int) ⊕ Int) :=
  (if (sv3.2 != 0) = true then
    (remM sv3.1 sv3.2).bind fun rem29 =>
    some (Sum.inl (sv3.2, rem29))
  else
    some (Sum.inr sv3.1))
noncomputable def response_gcd (a1 : Int) (b2 : Int) : Option Int :=
  (whileM (response_gcd_l1) (a1, b2)).bind fun e21 =>
  some e21

-- seismonet/response.faster
noncomputable def response_faster (r1 : Rate) (n2 : Int) : Option (Rate × Bool) :=
  (response_gcd r1.Den n2).bind fun rv6 =>
  (quoM .i64 n2 rv6).bind fun quo13 =>
  (quoM .i64 r1.Den rv6).bind fun quo15 =>
  (rate_Valid (⟨(w64 (r1.Num * quo13)), quo15⟩ : Rate)).bind fun rv19 =>
  some ((⟨(w64 (r1.Num * quo13)), quo15⟩ : Rate), rv19)

-- seismonet/response.plus
noncomputable def response_plus (a1 : Ratio) (b2 : Ratio) : Option Ratio :=
  (some (w64 ((w64 (a1.Num * b2.Den)) + (w64 (b2.Num * a1.Den))))).bind fun num7 =>
  (some (w64 (a1.Den * b2.Den))).bind fun den9 =>
  (response_gcd num7 den9).bind fun rv12 =>
  (quoM .i64 num7 rv12).bind fun quo19 =>
  (quoM .i64 den9 rv12).bind fun quo21 =>
  some (⟨quo19, quo21⟩ : Ratio)

-- seismonet/response.Delay
noncomputable def response_Delay_j1 (sv489 : (Int × Int × Int)) (x679 : Int) (x680 : Int) : Option ((Int × Int × Int) ⊕ (Ratio × Int)) :=
  some (Sum.inl (x679, x680, (w64 (sv489.2.2 + 1))))
noncomputable def response_Delay_l4 (r1 : Response) (out5 : Rate) (sv489 : (Int × Int × Int)) : Option ((Int × Int × Int) ⊕ (Ratio × Int)) :=
  (if (decide (sv489.2.2 < (r1.Stages.length : Int))) = true then
    (ix r1.Stages sv489.2.2).bind fun x683 =>
    (if (x683.Kind != 2) = true then
      response_Delay_j1 sv489 sv489.1 sv489.2.1
    else
      (subM r1.Stages sv489.2.2 (r1.Stages.length : Int)).bind fun l706 =>
      (response_factor l706).bind fun rv708 =>
      (response_faster out5 rv708).bind fun rv710 =>
      (if (!rv710.2) = true then
        some (Sum.inr ((⟨0, 0⟩ : Ratio), 8))
      else
        (response_plus (⟨sv489.1, sv489.2.1⟩ : Ratio) (⟨(w64 ((w64 ((x683.Taps.length : Int) - 1)) * rv710.1.Den)), (w64 (2 * rv710.1.Num))⟩ : Ratio)).bind fun rv742 =>
        (if ((decide (1099511627776 < rv742.Num)) || (decide (1099511627776 < rv742.Den))) = true then
          some (Sum.inr ((⟨0, 0⟩ : Ratio), 8))
        else
          response_Delay_j1 sv489 rv742.Num rv742.Den)))
  else
    Option.map Sum.inr (some ((⟨sv489.1, sv489.2.1⟩ : Ratio), 0)))
noncomputable def response_Delay_l2 (r1 : Response) (out5 : Rate) (sv151 : Int) : Option (Int ⊕ (Ratio × Int)) :=
  (if (decide (sv151 < (r1.Stages.length : Int))) = true then
    (ix r1.Stages sv151).bind fun x309 =>
    ((if (x309.Kind == 2) = true then
      (response_symmetric x309.Taps).bind fun rv336 =>
      some (!rv336)
    else
      some false)).bind fun c333 =>
    (if c333 = true then
      some (Sum.inr ((⟨0, 0⟩ : Ratio), 11))
    else
      some (Sum.inl (w64 (sv151 + 1))))
  else
    Option.map Sum.inr (whileM (response_Delay_l4 r1 out5) (0, 1, 0)))
noncomputable def response_Delay (r1 : Response) (out5 : Rate) : Option (Ratio × Int) :=
  (response_Valid r1).bind fun rv10 =>
  ((if (!rv10) = true then
    some true
  else
    (rate_Valid out5).bind fun rv27 =>
    some (!rv27))).bind fun c24 =>
  (if c24 = true then
    some ((⟨0, 0⟩ : Ratio), 1)
  else
    whileM (response_Delay_l2 r1 out5) (0))

-- seismonet/seismonetlaw18.sane
noncomputable def law18_sane : Option Bool :=
  (response_Gain (⟨([(⟨1, (⟨1, 0, 0⟩ : (Arr3 Int)), (⟨1, 1, 0⟩ : (Arr3 Int)), ([] : List Int), 0, 0⟩ : Stage)] : List Stage)⟩ : Response) 1 1).bind fun rv5 =>
  (ref17_Equal rv5.1 (⟨([1] : List Int), ([2] : List Int)⟩ : Fraction)).bind fun rv24 =>
  (response_Delay (⟨([(⟨2, (⟨0, 0, 0⟩ : (Arr3 Int)), (⟨0, 0, 0⟩ : (Arr3 Int)), ([1, 2, 1] : List Int), 1, 2⟩ : Stage)] : List Stage)⟩ : Response) (⟨100, 1⟩ : Rate)).bind fun rv36 =>
  ((if (((((rv5.2 == 0) && (rv24.2 == 0)) && (rv36.2 == 0)) && rv24.1) && ((rv36.1.Num == 1) && ((rv36.1.Den == 100) && true))) = true then
    (response_ValidStage (⟨1, (⟨1, 0, 0⟩ : (Arr3 Int)), (⟨1, 1, 0⟩ : (Arr3 Int)), ([] : List Int), 0, 0⟩ : Stage)).bind fun rv58 =>
    some rv58
  else
    some false)).bind fun c55 =>
  some c55

-- seismonet/seismonetmade.Roll
noncomputable def made_Roll (l1 : (List Int)) : Option Dice :=
  some (⟨l1, 0⟩ : Dice)

-- (*seismonet/seismonetmade.Dice).Next
noncomputable def made_Dice_Next_j1 (d1 : Dice) (x33 : Int) : Option (Int × Dice) :=
  some (x33, (⟨d1.L, (w64 (d1.At + 1))⟩ : Dice))
noncomputable def made_Dice_Next (d1 : Dice) (n6 : Int) : Option (Int × Dice) :=
  (if ((decide ((d1.L.length : Int) ≤ d1.At)) || (decide (n6 < 1))) = true then
    some (0, d1)
  else
    (ix d1.L d1.At).bind fun x15 =>
    (remM x15 n6).bind fun rem27 =>
    (if (decide (rem27 < 0)) = true then
      (some (w64 (rem27 + n6))).bind fun x36 =>
      made_Dice_Next_j1 d1 x36
    else
      made_Dice_Next_j1 d1 rem27))

-- (*seismonet/seismonetmade.Dice).Pick
noncomputable def made_Dice_Pick (d1 : Dice) (l6 : (List Int)) : Option (Int × Dice) :=
  (made_Dice_Next d1 (l6.length : Int)).bind fun rv11 =>
  (ix l6 rv11.1).bind fun x22 =>
  some (x22, rv11.2)

-- (*seismonet/seismonetmade.Dice).Stage
noncomputable def made_Dice_Stage_l1 (sv394 : ((List Int) × Int × (List Int) × Int)) : Option (((List Int) × Int × (List Int) × Int) ⊕ ((List Int) × Int × (List Int))) :=
  (if (decide (0 < sv394.2.2.2)) = true then
    (made_Dice_Next (⟨sv394.1, sv394.2.1⟩ : Dice) 4).bind fun rv525 =>
    (appM 8 ([rv525.1] : List Int) sv394.2.2.1).bind fun l537 =>
    (appM 8 l537 ([rv525.1] : List Int)).bind fun l544 =>
    (some (w64 (sv394.2.2.2 - 1))).bind fun i549 =>
    some (Sum.inl (rv525.2.L, rv525.2.At, l544, i549))
  else
    some (Sum.inr (sv394.1, sv394.2.1, sv394.2.2.1)))
noncomputable def made_Dice_Stage_j2 (rv363 : (Int × Dice)) (rv374 : (Int × Dice)) (rv552 : (Int × Dice)) (x573 : (List Int)) : Option (Stage × Dice) :=
  some ((⟨2, (⟨0, 0, 0⟩ : (Arr3 Int)), (⟨0, 0, 0⟩ : (Arr3 Int)), x573, rv363.1, rv374.1⟩ : Stage), rv552.2)
noncomputable def made_Dice_Stage (d1 : Dice) : Option (Stage × Dice) :=
  (made_Dice_Next d1 3).bind fun rv8 =>
  (if (rv8.1 == 0) = true then
    (made_Dice_Next rv8.2 9).bind fun rv195 =>
    (made_Dice_Next rv195.2 9).bind fun rv205 =>
    some ((⟨0, (⟨(w64 (1 + rv195.1)), 0, 0⟩ : (Arr3 Int)), (⟨(w64 (1 + rv205.1)), 0, 0⟩ : (Arr3 Int)), ([] : List Int), 0, 0⟩ : Stage), rv205.2)
  else
    (if (rv8.1 == 1) = true then
      (made_Dice_Next rv8.2 9).bind fun rv283 =>
      (made_Dice_Next rv283.2 9).bind fun rv293 =>
      (made_Dice_Next rv293.2 3).bind fun rv303 =>
      (made_Dice_Pick rv303.2 ([1, 2, (-3), 1048576] : List Int)).bind fun rv315 =>
      (made_Dice_Next rv315.2 9).bind fun rv326 =>
      (made_Dice_Pick rv326.2 ([0, 1, 1048576] : List Int)).bind fun rv338 =>
      some ((⟨1, (⟨(w64 (rv283.1 - 4)), (w64 (rv293.1 - 4)), rv303.1⟩ : (Arr3 Int)), (⟨rv315.1, (w64 (rv326.1 - 4)), rv338.1⟩ : (Arr3 Int)), ([] : List Int), 0, 0⟩ : Stage), rv338.2)
    else
      (made_Dice_Next rv8.2 4).bind fun rv349 =>
      (made_Dice_Pick rv349.2 ([1, 1, 2, 5] : List Int)).bind fun rv363 =>
      (made_Dice_Next rv363.2 5).bind fun rv374 =>
      (made_Dice_Next rv374.2 3).bind fun rv385 =>
      (whileM (made_Dice_Stage_l1) (rv385.2.L, rv385.2.At, ([(w64 (1 + rv349.1))] : List Int), rv385.1)).bind fun e491 =>
      (made_Dice_Next (⟨e491.1, e491.2.1⟩ : Dice) 6).bind fun rv552 =>
      (if (rv552.1 == 0) = true then
        (appM 8 e491.2.2 ([3] : List Int)).bind fun l578 =>
        made_Dice_Stage_j2 rv363 rv374 rv552 l578
      else
        made_Dice_Stage_j2 rv363 rv374 rv552 e491.2.2)))

-- (*seismonet/seismonetmade.Dice).Response
noncomputable def made_Dice_Response_j1 (sv18 : ((List Int) × Int × (List Stage) × Int × Int)) (rv169 : (Stage × Dice)) (n188 : Int) : Option (((List Int) × Int × (List Stage) × Int × Int) ⊕ ((List Int) × Int × (List Stage))) :=
  (appM 96 sv18.2.2.1 ([rv169.1] : List Stage)).bind fun l193 =>
  (some (w64 (sv18.2.2.2.2 - 1))).bind fun i198 =>
  some (Sum.inl (rv169.2.L, rv169.2.At, l193, n188, i198))
noncomputable def made_Dice_Response_l1 (sv18 : ((List Int) × Int × (List Stage) × Int × Int)) : Option (((List Int) × Int × (List Stage) × Int × Int) ⊕ ((List Int) × Int × (List Stage))) :=
  (if (decide (0 < sv18.2.2.2.2)) = true then
    (made_Dice_Stage (⟨sv18.1, sv18.2.1⟩ : Dice)).bind fun rv169 =>
    (if (rv169.1.Kind == 2) = true then
      (some (w64 (sv18.2.2.2.1 * rv169.1.Factor))).bind fun n201 =>
      (if (decide (64 < n201)) = true then
        some (Sum.inr (rv169.2.L, rv169.2.At, sv18.2.2.1))
      else
        made_Dice_Response_j1 sv18 rv169 n201)
    else
      made_Dice_Response_j1 sv18 rv169 sv18.2.2.2.1)
  else
    some (Sum.inr (sv18.1, sv18.2.1, sv18.2.2.1)))
noncomputable def made_Dice_Response (d1 : Dice) : Option (Response × Dice) :=
  (made_Dice_Next d1 4).bind fun rv9 =>
  (whileM (made_Dice_Response_l1) (rv9.2.L, rv9.2.At, ([] : List Stage), 1, rv9.1)).bind fun e130 =>
  some ((⟨e130.2.2⟩ : Response), (⟨e130.1, e130.2.1⟩ : Dice))

-- seismonet/seismonetref18.Copy
noncomputable def ref18_Copy_l1 (r1 : Response) (sv8 : ((List Stage) × Int)) : Option (((List Stage) × Int) ⊕ (List Stage)) :=
  (if (decide (sv8.2 < (r1.Stages.length : Int))) = true then
    (ix r1.Stages sv8.2).bind fun x162 =>
    (appM 8 ([] : List Int) x162.Taps).bind fun l179 =>
    (appM 96 sv8.1 ([(⟨x162.Kind, x162.Num, x162.Den, l179, x162.Factor, x162.Shift⟩ : Stage)] : List Stage)).bind fun l187 =>
    (some (w64 (sv8.2 + 1))).bind fun i192 =>
    some (Sum.inl (l187, i192))
  else
    some (Sum.inr sv8.1))
noncomputable def ref18_Copy (r1 : Response) : Option Response :=
  (whileM (ref18_Copy_l1 r1) (([] : List Stage), 0)).bind fun e122 =>
  some (⟨e122⟩ : Response)

-- seismonet/seismonetlaw18.odd
noncomputable def law18_odd_j1 (x441 : (List Int)) (x442 : Int) (x443 : Int) (x444 : Int) (x445 : Int) (x446 : Int) (x447 : Int) (x448 : Int) (x449 : Int) (x450 : (List Int)) (x451 : Int) (x452 : Int) : Option (Stage × Dice) :=
  some ((⟨x443, (⟨x444, x445, x446⟩ : (Arr3 Int)), (⟨x447, x448, x449⟩ : (Arr3 Int)), x450, x451, x452⟩ : Stage), (⟨x441, x442⟩ : Dice))
noncomputable def law18_odd_j2 (s6 : Stage) (x639 : (List Int)) (x640 : Int) (x641 : Int) (x642 : Int) (x643 : Int) (x644 : Int) (x645 : Int) (x646 : Int) (x647 : (List Int)) (x648 : Int) (x649 : Int) : Option (Stage × Dice) :=
  law18_odd_j1 x639 x640 s6.Kind x641 x642 x643 x644 x645 x646 x647 x648 x649
noncomputable def law18_odd_j3 (s6 : Stage) (x812 : (List Int)) (x813 : Int) (x814 : Int) (x815 : Int) (x816 : Int) (x817 : (List Int)) (x818 : Int) (x819 : Int) : Option (Stage × Dice) :=
  law18_odd_j2 s6 x812 x813 s6.Num.e0 s6.Num.e1 s6.Num.e2 x814 x815 x816 x817 x818 x819
noncomputable def law18_odd_j4 (s6 : Stage) (x946 : (List Int)) (x947 : Int) (x948 : (List Int)) (x949 : Int) (x950 : Int) : Option (Stage × Dice) :=
  law18_odd_j3 s6 x946 x947 s6.Den.e0 s6.Den.e1 s6.Den.e2 x948 x949 x950
noncomputable def law18_odd_j5 (s6 : Stage) (x1042 : (List Int)) (x1043 : Int) (x1044 : (List Int)) (x1045 : Int) : Option (Stage × Dice) :=
  law18_odd_j4 s6 x1042 x1043 x1044 s6.Factor x1045
noncomputable def law18_odd_j6 (s6 : Stage) (x1115 : (List Int)) (x1116 : Int) (x1117 : (List Int)) : Option (Stage × Dice) :=
  law18_odd_j5 s6 x1115 x1116 x1117 s6.Shift
noncomputable def law18_odd_j7 (s6 : Stage) (rv18 : (Int × Dice)) (x1193 : (List Int)) : Option (Stage × Dice) :=
  law18_odd_j6 s6 rv18.2.L rv18.2.At x1193
noncomputable def law18_odd (d1 : Dice) (s6 : Stage) : Option (Stage × Dice) :=
  (appM 8 ([] : List Int) s6.Taps).bind fun l13 =>
  (made_Dice_Next d1 8).bind fun rv18 =>
  (if (rv18.1 == 0) = true then
    (made_Dice_Next rv18.2 5).bind fun rv455 =>
    law18_odd_j1 rv455.2.L rv455.2.At (w64 (rv455.1 - 1)) s6.Num.e0 s6.Num.e1 s6.Num.e2 s6.Den.e0 s6.Den.e1 s6.Den.e2 l13 s6.Factor s6.Shift
  else
    (if (rv18.1 == 1) = true then
      (made_Dice_Next rv18.2 3).bind fun rv652 =>
      (made_Dice_Pick rv652.2 ([(-1), 0, 1048576, 1048577] : List Int)).bind fun rv664 =>
      (ixB 3 rv652.1).bind fun q675 =>
      law18_odd_j2 s6 rv664.2.L rv664.2.At (bif Nat.beq q675 0 then rv664.1 else s6.Num.e0) (bif Nat.beq q675 1 then rv664.1 else s6.Num.e1) (bif Nat.beq q675 2 then rv664.1 else s6.Num.e2) s6.Den.e0 s6.Den.e1 s6.Den.e2 l13 s6.Factor s6.Shift
    else
      (if (rv18.1 == 2) = true then
        (made_Dice_Next rv18.2 3).bind fun rv822 =>
        (made_Dice_Pick rv822.2 ([0, 1, (-1048576), (-1048577)] : List Int)).bind fun rv834 =>
        (ixB 3 rv822.1).bind fun q845 =>
        law18_odd_j3 s6 rv834.2.L rv834.2.At (bif Nat.beq q845 0 then rv834.1 else s6.Den.e0) (bif Nat.beq q845 1 then rv834.1 else s6.Den.e1) (bif Nat.beq q845 2 then rv834.1 else s6.Den.e2) l13 s6.Factor s6.Shift
      else
        (if (rv18.1 == 3) = true then
          (made_Dice_Pick rv18.2 ([0, 1, 64, 65] : List Int)).bind fun rv955 =>
          law18_odd_j4 s6 rv955.2.L rv955.2.At l13 rv955.1 s6.Shift
        else
          (if (rv18.1 == 4) = true then
            (made_Dice_Pick rv18.2 ([(-1), 40, 41] : List Int)).bind fun rv1050 =>
            law18_odd_j5 s6 rv1050.2.L rv1050.2.At l13 rv1050.1
          else
            (if (rv18.1 == 5) = true then
              (makeM 8 (0 : Int) 129).bind fun l1126 =>
              (made_Dice_Next rv18.2 5).bind fun rv1132 =>
              (ix ([([] : List Int), ([0] : List Int), ([1, (-1)] : List Int), ([1048577] : List Int), l1126] : List (List Int)) rv1132.1).bind fun x1138 =>
              law18_odd_j6 s6 rv1132.2.L rv1132.2.At x1138
            else
              (if (rv18.1 == 6) = true then
                (appM 8 l13 ([7] : List Int)).bind fun l1199 =>
                law18_odd_j7 s6 rv18 l1199
              else
                law18_odd_j7 s6 rv18 l13)))))))

-- seismonet/seismonetref18.terms
noncomputable def ref18_terms_l2 (l1 : (List Int)) (sv82 : Int) : Option (Int ⊕ Bool) :=
  (if (decide (sv82 < (l1.length : Int))) = true then
    (ix l1 sv82).bind fun x186 =>
    (ref01_In x186 (-1048576) 1048576).bind fun rv198 =>
    (if (!rv198) = true then
      some (Sum.inr false)
    else
      (some (w64 (sv82 + 1))).bind fun i208 =>
      some (Sum.inl i208))
  else
    Option.map Sum.inr (some true))
noncomputable def ref18_terms (l1 : (List Int)) : Option Bool :=
  whileM (ref18_terms_l2 l1) (0)

-- seismonet/seismonetref18.total
noncomputable def ref18_total_l1 (l1 : (List Int)) (sv5 : (Int × Int)) : Option ((Int × Int) ⊕ Int) :=
  (if (decide (sv5.2 < (l1.length : Int))) = true then
    (ix l1 sv5.2).bind fun x86 =>
    (some (w64 (sv5.1 + x86))).bind fun n98 =>
    (some (w64 (sv5.2 + 1))).bind fun i100 =>
    some (Sum.inl (n98, i100))
  else
    some (Sum.inr sv5.1))
noncomputable def ref18_total (l1 : (List Int)) : Option Int :=
  (whileM (ref18_total_l1 l1) (0, 0)).bind fun e65 =>
  some e65

-- seismonet/seismonetref18.ValidStage
noncomputable def ref18_ValidStage (s1 : Stage) : Option Bool :=
  (if (s1.Kind == 0) = true then
    ((if ((((s1.Taps.length : Int) == 0) && (s1.Factor == 0)) && (s1.Shift == 0)) = true then
      (ref01_In s1.Num.e0 1 1048576).bind fun rv362 =>
      some rv362
    else
      some false)).bind fun c359 =>
    ((if c359 = true then
      (ref01_In s1.Den.e0 1 1048576).bind fun rv379 =>
      some rv379
    else
      some false)).bind fun c376 =>
    some ((((c376 && (s1.Num.e1 == 0)) && (s1.Num.e2 == 0)) && (s1.Den.e1 == 0)) && (s1.Den.e2 == 0))
  else
    (if (s1.Kind == 1) = true then
      ((if ((((s1.Taps.length : Int) == 0) && (s1.Factor == 0)) && (s1.Shift == 0)) = true then
        (ref18_terms ([s1.Num.e0, s1.Num.e1, s1.Num.e2] : List Int)).bind fun rv535 =>
        some rv535
      else
        some false)).bind fun c531 =>
      ((if c531 = true then
        (ref18_terms ([s1.Den.e0, s1.Den.e1, s1.Den.e2] : List Int)).bind fun rv553 =>
        some rv553
      else
        some false)).bind fun c550 =>
      some (c550 && (s1.Den.e0 != 0))
    else
      (if (s1.Kind == 2) = true then
        ((if (((s1.Num.e0 == 0) && ((s1.Num.e1 == 0) && ((s1.Num.e2 == 0) && true))) && ((s1.Den.e0 == 0) && ((s1.Den.e1 == 0) && ((s1.Den.e2 == 0) && true)))) = true then
          (ref01_In (s1.Taps.length : Int) 1 128).bind fun rv662 =>
          some rv662
        else
          some false)).bind fun c659 =>
        ((if c659 = true then
          (ref18_terms s1.Taps).bind fun rv679 =>
          some rv679
        else
          some false)).bind fun c676 =>
        ((if c676 = true then
          (ref18_total s1.Taps).bind fun rv696 =>
          some (rv696 != 0)
        else
          some false)).bind fun c693 =>
        ((if c693 = true then
          (ref01_In s1.Factor 1 64).bind fun rv713 =>
          some rv713
        else
          some false)).bind fun c710 =>
        ((if c710 = true then
          (ref01_In s1.Shift 0 40).bind fun rv730 =>
          some rv730
        else
          some false)).bind fun c727 =>
        some c727
      else
        some false)))

-- seismonet/seismonetref18.Valid
noncomputable def ref18_Valid_j1 (sv185 : (Int × Int)) (n479 : Int) : Option ((Int × Int) ⊕ Bool) :=
  (some (w64 (sv185.2 + 1))).bind fun i481 =>
  some (Sum.inl (n479, i481))
noncomputable def ref18_Valid_l2 (r1 : Response) (sv185 : (Int × Int)) : Option ((Int × Int) ⊕ Bool) :=
  (if (decide (sv185.2 < (r1.Stages.length : Int))) = true then
    (ix r1.Stages sv185.2).bind fun x425 =>
    (ref18_ValidStage x425).bind fun rv441 =>
    (if (!rv441) = true then
      some (Sum.inr false)
    else
      (ix r1.Stages sv185.2).bind fun x452 =>
      (if (x452.Kind == 2) = true then
        (ix r1.Stages sv185.2).bind fun x485 =>
        (some (w64 (sv185.1 * x485.Factor))).bind fun n496 =>
        (if (decide (64 < n496)) = true then
          some (Sum.inr false)
        else
          ref18_Valid_j1 sv185 n496)
      else
        ref18_Valid_j1 sv185 sv185.1))
  else
    Option.map Sum.inr (some (decide ((r1.Stages.length : Int) ≤ 8))))
noncomputable def ref18_Valid (r1 : Response) : Option Bool :=
  whileM (ref18_Valid_l2 r1) (1, 0)

-- seismonet/seismonetref17.From
noncomputable def ref17_From_l1 (sv4 : (Int × (List Int))) : Option ((Int × (List Int)) ⊕ (List Int)) :=
  (if (decide (0 < sv4.1)) = true then
    (appM 8 sv4.2 ([(Int.tmod sv4.1 1073741824)] : List Int)).bind fun l65 =>
    (some (w64 (Int.tdiv sv4.1 1073741824))).bind fun n70 =>
    some (Sum.inl (n70, l65))
  else
    some (Sum.inr sv4.2))
noncomputable def ref17_From (n1 : Int) : Option ((List Int) × Int) :=
  (if (decide (n1 < 0)) = true then
    some (([] : List Int), 2)
  else
    (whileM (ref17_From_l1) (n1, ([] : List Int))).bind fun e46 =>
    some (e46, 0))

-- seismonet/seismonetref17.limited
noncomputable def ref17_limited (n1 : (List Int)) : Option ((List Int) × Int) :=
  (if (decide (64 < (n1.length : Int))) = true then
    some (([] : List Int), 8)
  else
    some (n1, 0))

-- seismonet/seismonetref17.Mul
noncomputable def ref17_Mul (a1 : (List Int)) (b5 : (List Int)) : Option ((List Int) × Int) :=
  (ref17_Valid a1).bind fun rv10 =>
  ((if (!rv10) = true then
    some true
  else
    (ref17_Valid b5).bind fun rv27 =>
    some (!rv27))).bind fun c24 =>
  (if c24 = true then
    some (([] : List Int), 1)
  else
    (ref17_mul a1 b5).bind fun rv36 =>
    (ref17_limited rv36).bind fun rv46 =>
    some (rv46.1, rv46.2))

-- seismonet/seismonetref18.square
noncomputable def ref18_square (n1 : Int) : Option (List Int) :=
  (ref17_From (max n1 (w64 (0 - n1)))).bind fun rv3 =>
  (ref17_Mul rv3.1 rv3.1).bind fun rv14 =>
  some rv14.1

-- seismonet/seismonetref17.Add
noncomputable def ref17_Add_j2 (sv35 : ((List Int) × Int × Int)) (carry292 : Int) : Option (((List Int) × Int × Int) ⊕ (List Int)) :=
  (appM 8 sv35.1 ([(Int.tmod carry292 1073741824)] : List Int)).bind fun l296 =>
  (some (w64 (Int.tdiv carry292 1073741824))).bind fun carry301 =>
  (some (w64 (sv35.2.2 + 1))).bind fun i303 =>
  some (Sum.inl (l296, carry301, i303))
noncomputable def ref17_Add_j1 (b5 : (List Int)) (sv35 : ((List Int) × Int × Int)) (carry274 : Int) : Option (((List Int) × Int × Int) ⊕ (List Int)) :=
  (if (decide (sv35.2.2 < (b5.length : Int))) = true then
    (ix b5 sv35.2.2).bind fun x307 =>
    (some (w64 (carry274 + x307))).bind fun carry319 =>
    ref17_Add_j2 sv35 carry319
  else
    ref17_Add_j2 sv35 carry274)
noncomputable def ref17_Add_l1 (a1 : (List Int)) (b5 : (List Int)) (sv35 : ((List Int) × Int × Int)) : Option (((List Int) × Int × Int) ⊕ (List Int)) :=
  (if (((decide (sv35.2.2 < (a1.length : Int))) || (decide (sv35.2.2 < (b5.length : Int)))) || (decide (0 < sv35.2.1))) = true then
    (if (decide (sv35.2.2 < (a1.length : Int))) = true then
      (ix a1 sv35.2.2).bind fun x323 =>
      (some (w64 (sv35.2.1 + x323))).bind fun carry335 =>
      ref17_Add_j1 b5 sv35 carry335
    else
      ref17_Add_j1 b5 sv35 sv35.2.1)
  else
    some (Sum.inr sv35.1))
noncomputable def ref17_Add (a1 : (List Int)) (b5 : (List Int)) : Option ((List Int) × Int) :=
  (ref17_Valid a1).bind fun rv10 =>
  ((if (!rv10) = true then
    some true
  else
    (ref17_Valid b5).bind fun rv27 =>
    some (!rv27))).bind fun c24 =>
  (if c24 = true then
    some (([] : List Int), 1)
  else
    (whileM (ref17_Add_l1 a1 b5) (([] : List Int), 0, 0)).bind fun e203 =>
    (ref17_limited e203).bind fun rv340 =>
    some (rv340.1, rv340.2))

-- seismonet/seismonetref18.magnitude
noncomputable def ref18_magnitude (a1 : (Arr3 Int)) (num2 : Int) (den3 : Int) : Option (List Int) :=
  (ref18_square (w64 ((w64 ((w64 (a1.e0 * den3)) * den3)) - (w64 ((w64 (a1.e2 * num2)) * num2))))).bind fun rv6 =>
  (ref18_square (w64 ((w64 (a1.e1 * num2)) * den3))).bind fun rv11 =>
  (ref17_Add rv6 rv11).bind fun rv16 =>
  some rv16.1

-- seismonet/seismonetref18.gain
noncomputable def ref18_gain (s1 : Stage) (num5 : Int) (den6 : Int) : Option Fraction :=
  (if (s1.Kind == 0) = true then
    (ref18_square s1.Num.e0).bind fun rv59 =>
    (ref18_square s1.Den.e0).bind fun rv64 =>
    some (⟨rv59, rv64⟩ : Fraction)
  else
    (if (s1.Kind == 1) = true then
      (ref18_magnitude s1.Num num5 den6).bind fun rv93 =>
      (ref18_magnitude s1.Den num5 den6).bind fun rv98 =>
      some (⟨rv93, rv98⟩ : Fraction)
    else
      (ref18_total s1.Taps).bind fun rv114 =>
      (ref18_square rv114).bind fun rv116 =>
      (shlM .i64 1 (IntKind.u64.wrap s1.Shift)).bind fun shl121 =>
      (ref18_square shl121).bind fun rv123 =>
      some (⟨rv116, rv123⟩ : Fraction)))

-- seismonet/seismonetref17.Times
noncomputable def ref17_Times (a1 : Fraction) (b8 : Fraction) : Option (Fraction × Int) :=
  (ref17_ValidFraction a1).bind fun rv19 =>
  ((if (!rv19) = true then
    some true
  else
    (ref17_ValidFraction b8).bind fun rv36 =>
    some (!rv36))).bind fun c33 =>
  (if c33 = true then
    some ((⟨([] : List Int), ([] : List Int)⟩ : Fraction), 1)
  else
    (ref17_Mul a1.Num b8.Num).bind fun rv45 =>
    (ref17_Mul a1.Den b8.Den).bind fun rv55 =>
    (if ((rv45.2 != 0) || (rv55.2 != 0)) = true then
      some ((⟨([] : List Int), ([] : List Int)⟩ : Fraction), 8)
    else
      some ((⟨rv45.1, rv55.1⟩ : Fraction), 0)))

-- seismonet/seismonetref18.Gain
noncomputable def ref18_Gain_l2 (r1 : Response) (num5 : Int) (den6 : Int) (sv210 : ((List Int) × (List Int) × Int)) : Option (((List Int) × (List Int) × Int) ⊕ (Fraction × Int)) :=
  (if (decide (sv210.2.2 < (r1.Stages.length : Int))) = true then
    (ix r1.Stages sv210.2.2).bind fun x422 =>
    (ref18_gain x422 num5 den6).bind fun rv438 =>
    (if ((rv438.Den.length : Int) == 0) = true then
      some (Sum.inr ((⟨([] : List Int), ([] : List Int)⟩ : Fraction), 11))
    else
      (ref17_Times (⟨sv210.1, sv210.2.1⟩ : Fraction) rv438).bind fun rv455 =>
      (some (w64 (sv210.2.2 + 1))).bind fun i468 =>
      some (Sum.inl (rv455.1.Num, rv455.1.Den, i468)))
  else
    Option.map Sum.inr (some ((⟨sv210.1, sv210.2.1⟩ : Fraction), 0)))
noncomputable def ref18_Gain (r1 : Response) (num5 : Int) (den6 : Int) : Option (Fraction × Int) :=
  (ref18_Valid r1).bind fun rv10 =>
  (if (!rv10) = true then
    some ((⟨([] : List Int), ([] : List Int)⟩ : Fraction), 1)
  else
    (ref01_In num5 0 65536).bind fun rv19 =>
    ((if (!rv19) = true then
      some true
    else
      (ref01_In den6 1 65536).bind fun rv36 =>
      some (!rv36))).bind fun c33 =>
    (if c33 = true then
      some ((⟨([] : List Int), ([] : List Int)⟩ : Fraction), 2)
    else
      whileM (ref18_Gain_l2 r1 num5 den6) (([1] : List Int), ([1] : List Int), 0)))

-- seismonet/seismonetref17.Same
noncomputable def ref17_Same_l2 (a1 : (List Int)) (b5 : (List Int)) (sv109 : Int) : Option (Int ⊕ Bool) :=
  (if (decide (sv109 < (a1.length : Int))) = true then
    (ix a1 sv109).bind fun x241 =>
    (ix b5 sv109).bind fun x254 =>
    (if (x241 != x254) = true then
      some (Sum.inr false)
    else
      (some (w64 (sv109 + 1))).bind fun i270 =>
      some (Sum.inl i270))
  else
    Option.map Sum.inr (some true))
noncomputable def ref17_Same (a1 : (List Int)) (b5 : (List Int)) : Option Bool :=
  (if ((a1.length : Int) != (b5.length : Int)) = true then
    some false
  else
    whileM (ref17_Same_l2 a1 b5) (0))

-- seismonet/seismonetref17.SameFraction
noncomputable def ref17_SameFraction (a1 : Fraction) (b8 : Fraction) : Option Bool :=
  (ref17_Same a1.Num b8.Num).bind fun rv18 =>
  ((if rv18 = true then
    (ref17_Same a1.Den b8.Den).bind fun rv35 =>
    some rv35
  else
    some false)).bind fun c32 =>
  some c32

-- seismonet/seismonetref02.gcd
noncomputable def ref02_gcd_l1 (sv3 : (Int × Int)) : Option ((Int × Int) ⊕ Int) :=
  (if (sv3.2 != 0) = true then
    (remM sv3.1 sv3.2).bind fun rem29 =>
    some (Sum.inl (sv3.2, rem29))
  else
    some (Sum.inr sv3.1))
noncomputable def ref02_gcd (a1 : Int) (b2 : Int) : Option Int :=
  (whileM (ref02_gcd_l1) (a1, b2)).bind fun e21 =>
  some e21

-- seismonet/seismonetref02.New
noncomputable def ref02_New (num1 : Int) (den2 : Int) : Option (Rate × Int) :=
  (ref01_In num1 1 4096).bind fun rv5 =>
  ((if (!rv5) = true then
    some true
  else
    (ref01_In den2 1 4096).bind fun rv22 =>
    some (!rv22))).bind fun c19 =>
  (if c19 = true then
    some ((⟨0, 0⟩ : Rate), 2)
  else
    (ref02_gcd num1 den2).bind fun rv31 =>
    (quoM .i64 num1 rv31).bind fun quo38 =>
    (quoM .i64 den2 rv31).bind fun quo40 =>
    some ((⟨quo38, quo40⟩ : Rate), 0))

-- (*seismonet/seismonetmade.Dice).Rate
noncomputable def made_Dice_Rate (d1 : Dice) : Option (Rate × Dice) :=
  (made_Dice_Pick d1 ([1, 3, 20, 100, 40, 4096, 7] : List Int)).bind fun rv10 =>
  (made_Dice_Pick rv10.2 ([1, 1, 1, 3, 7, 4096] : List Int)).bind fun rv23 =>
  (ref02_New rv10.1 rv23.1).bind fun rv34 =>
  some (rv34.1, rv23.2)

-- seismonet/response.Input
noncomputable def response_Input (r1 : Response) (out5 : Rate) : Option (Rate × Int) :=
  (response_Valid r1).bind fun rv10 =>
  ((if (!rv10) = true then
    some true
  else
    (rate_Valid out5).bind fun rv27 =>
    some (!rv27))).bind fun c24 =>
  (if c24 = true then
    some ((⟨0, 0⟩ : Rate), 1)
  else
    (response_factor r1.Stages).bind fun rv36 =>
    (response_faster out5 rv36).bind fun rv38 =>
    (if (!rv38.2) = true then
      some ((⟨0, 0⟩ : Rate), 8)
    else
      some (rv38.1, 0)))

-- seismonet/seismonetref02.Valid
noncomputable def ref02_Valid (r1 : Rate) : Option Bool :=
  (ref01_In r1.Num 1 4096).bind fun rv4 =>
  ((if rv4 = true then
    (ref01_In r1.Den 1 4096).bind fun rv21 =>
    some rv21
  else
    some false)).bind fun c18 =>
  ((if c18 = true then
    (ref02_gcd r1.Num r1.Den).bind fun rv38 =>
    some (rv38 == 1)
  else
    some false)).bind fun c35 =>
  some c35

-- seismonet/seismonetref18.factor
noncomputable def ref18_factor_j1 (sv7 : (Int × Int)) (n195 : Int) : Option ((Int × Int) ⊕ Int) :=
  (some (w64 (sv7.2 + 1))).bind fun i197 =>
  some (Sum.inl (n195, i197))
noncomputable def ref18_factor_l1 (r1 : Response) (sv7 : (Int × Int)) : Option ((Int × Int) ⊕ Int) :=
  (if (decide (sv7.2 < (r1.Stages.length : Int))) = true then
    (ix r1.Stages sv7.2).bind fun x164 =>
    (if (x164.Kind == 2) = true then
      (ix r1.Stages sv7.2).bind fun x201 =>
      (some (w64 (sv7.1 * x201.Factor))).bind fun n212 =>
      ref18_factor_j1 sv7 n212
    else
      ref18_factor_j1 sv7 sv7.1)
  else
    some (Sum.inr sv7.1))
noncomputable def ref18_factor (r1 : Response) (from5 : Int) : Option Int :=
  (whileM (ref18_factor_l1 r1) (1, from5)).bind fun e124 =>
  some e124

-- seismonet/seismonetref18.faster
noncomputable def ref18_faster_l1 (sv8 : (Int × Int)) : Option ((Int × Int) ⊕ Int) :=
  (if (sv8.2 != 0) = true then
    (remM sv8.1 sv8.2).bind fun rem34 =>
    some (Sum.inl (sv8.2, rem34))
  else
    some (Sum.inr sv8.1))
noncomputable def ref18_faster (out1 : Rate) (n2 : Int) : Option (Rate × Int) :=
  (some (w64 (out1.Num * n2))).bind fun av6 =>
  (whileM (ref18_faster_l1) (av6, out1.Den)).bind fun e26 =>
  (quoM .i64 av6 e26).bind fun quo38 =>
  (quoM .i64 out1.Den e26).bind fun quo40 =>
  (ref02_Valid (⟨quo38, quo40⟩ : Rate)).bind fun rv44 =>
  (if (!rv44) = true then
    some ((⟨0, 0⟩ : Rate), 8)
  else
    some ((⟨quo38, quo40⟩ : Rate), 0))

-- seismonet/seismonetref18.Input
noncomputable def ref18_Input (r1 : Response) (out5 : Rate) : Option (Rate × Int) :=
  (ref18_Valid r1).bind fun rv10 =>
  ((if (!rv10) = true then
    some true
  else
    (ref02_Valid out5).bind fun rv27 =>
    some (!rv27))).bind fun c24 =>
  (if c24 = true then
    some ((⟨0, 0⟩ : Rate), 1)
  else
    (ref18_factor r1 0).bind fun rv36 =>
    (ref18_faster out5 rv36).bind fun rv38 =>
    some (rv38.1, rv38.2))

-- seismonet/seismonetref18.reduce
noncomputable def ref18_reduce_l1 (sv4 : (Int × Int)) : Option ((Int × Int) ⊕ Int) :=
  (if (sv4.2 != 0) = true then
    (remM sv4.1 sv4.2).bind fun rem30 =>
    some (Sum.inl (sv4.2, rem30))
  else
    some (Sum.inr sv4.1))
noncomputable def ref18_reduce (num1 : Int) (den2 : Int) : Option Ratio :=
  (whileM (ref18_reduce_l1) (num1, den2)).bind fun e22 =>
  (quoM .i64 num1 e22).bind fun quo34 =>
  (quoM .i64 den2 e22).bind fun quo36 =>
  some (⟨quo34, quo36⟩ : Ratio)

-- seismonet/seismonetref18.Delay
noncomputable def ref18_Delay_l11 (sv349 : Int) (x769 : Stage) (sv867 : Int) : Option (Int ⊕ (Int ⊕ (Ratio × Int))) :=
  (if (decide (sv867 < (x769.Taps.length : Int))) = true then
    (ix x769.Taps sv867).bind fun x979 =>
    (ix x769.Taps (w64 ((w64 ((x769.Taps.length : Int) - 1)) - sv867))).bind fun x992 =>
    (if (x979 != x992) = true then
      some (Sum.inr (Sum.inr ((⟨0, 0⟩ : Ratio), 11)))
    else
      (some (w64 (sv867 + 1))).bind fun k1004 =>
      some (Sum.inl k1004))
  else
    Option.map Sum.inr ((some (w64 (sv349 + 1))).bind fun i1006 =>
    some (Sum.inl i1006)))
noncomputable def ref18_Delay_j2 (sv1186 : (Int × Int × Int)) (x1418 : Int) (x1419 : Int) : Option ((Int × Int × Int) ⊕ (Ratio × Int)) :=
  (some (w64 (sv1186.2.2 + 1))).bind fun i1421 =>
  some (Sum.inl (x1418, x1419, i1421))
noncomputable def ref18_Delay_l13 (r1 : Response) (out5 : Rate) (sv1186 : (Int × Int × Int)) : Option ((Int × Int × Int) ⊕ (Ratio × Int)) :=
  (if (decide (sv1186.2.2 < (r1.Stages.length : Int))) = true then
    (ix r1.Stages sv1186.2.2).bind fun x1424 =>
    (if (x1424.Kind != 2) = true then
      ref18_Delay_j2 sv1186 sv1186.1 sv1186.2.1
    else
      (ref18_factor r1 sv1186.2.2).bind fun rv1442 =>
      (ref18_faster out5 rv1442).bind fun rv1444 =>
      (if (rv1444.2 != 0) = true then
        some (Sum.inr ((⟨0, 0⟩ : Ratio), rv1444.2))
      else
        (ix r1.Stages sv1186.2.2).bind fun x1477 =>
        (ref18_reduce (w64 ((w64 ((x1477.Taps.length : Int) - 1)) * rv1444.1.Den)) (w64 (2 * rv1444.1.Num))).bind fun rv1488 =>
        (ref18_reduce (w64 ((w64 (sv1186.1 * rv1488.Den)) + (w64 (rv1488.Num * sv1186.2.1)))) (w64 (sv1186.2.1 * rv1488.Den))).bind fun rv1502 =>
        (if ((decide (1099511627776 < rv1502.Num)) || (decide (1099511627776 < rv1502.Den))) = true then
          some (Sum.inr ((⟨0, 0⟩ : Ratio), 8))
        else
          ref18_Delay_j2 sv1186 rv1502.Num rv1502.Den)))
  else
    Option.map Sum.inr (some ((⟨sv1186.1, sv1186.2.1⟩ : Ratio), 0)))
noncomputable def ref18_Delay_l7 (r1 : Response) (out5 : Rate) (sv349 : Int) : Option (Int ⊕ (Ratio × Int)) :=
  (if (decide (sv349 < (r1.Stages.length : Int))) = true then
    (ix r1.Stages sv349).bind fun x769 =>
    whileM (ref18_Delay_l11 sv349 x769) (0)
  else
    Option.map Sum.inr (whileM (ref18_Delay_l13 r1 out5) (0, 1, 0)))
noncomputable def ref18_Delay (r1 : Response) (out5 : Rate) : Option (Ratio × Int) :=
  (ref18_Valid r1).bind fun rv10 =>
  ((if (!rv10) = true then
    some true
  else
    (ref02_Valid out5).bind fun rv27 =>
    some (!rv27))).bind fun c24 =>
  (if c24 = true then
    some ((⟨0, 0⟩ : Ratio), 1)
  else
    whileM (ref18_Delay_l7 r1 out5) (0))

-- slices.Grow[[]seismonet/api.Stage,seismonet/api.Stage]
noncomputable def slices_Grow_Lapi_Stage_api_Stage_n_j1 (sv23 : (List Stage)) : Option (List Stage) :=
  some sv23
noncomputable def slices_Grow_Lapi_Stage_api_Stage_n (n1 : Int) : Option (List Stage) :=
  (if (decide (n1 < 0)) = true then
    none
  else
    (some (w64 (n1 - (w64 (((0 : Nat) : Int) - (([] : List Stage).length : Int)))))).bind fun n5 =>
    (if (decide (0 < n5)) = true then
      (subM ([] : List Stage) 0 ((0 : Nat) : Int)).bind fun l28 =>
      (makeM 96 ((⟨0, (⟨0, 0, 0⟩ : (Arr3 Int)), (⟨0, 0, 0⟩ : (Arr3 Int)), ([] : List Int), 0, 0⟩ : Stage) : Stage) n5).bind fun l30 =>
      (subM l30 0 (([] : List Stage).length : Int)).bind fun l36 =>
      slices_Grow_Lapi_Stage_api_Stage_n_j1 l36
    else
      slices_Grow_Lapi_Stage_api_Stage_n_j1 ([] : List Stage)))

-- slices.Concat[[]seismonet/api.Stage,seismonet/api.Stage]
noncomputable def slices_Concat_Lapi_Stage_api_Stage_l1 (slices1 : (List (List Stage))) (sv5 : (Int × Int)) : Option ((Int × Int) ⊕ Int) :=
  (if (decide (sv5.2 < (slices1.length : Int))) = true then
    (ix slices1 sv5.2).bind fun x100 =>
    (some (w64 (sv5.1 + (x100.length : Int)))).bind fun size116 =>
    (if (decide (size116 < 0)) = true then
      none
    else
      some (Sum.inl (size116, (w64 (sv5.2 + 1)))))
  else
    some (Sum.inr sv5.1))
noncomputable def slices_Concat_Lapi_Stage_api_Stage_l2 (slices1 : (List (List Stage))) (sv131 : ((List Stage) × Int)) : Option (((List Stage) × Int) ⊕ (List Stage)) :=
  (if (decide (sv131.2 < (slices1.length : Int))) = true then
    (ix slices1 sv131.2).bind fun x243 =>
    (appM 96 sv131.1 x243).bind fun l259 =>
    some (Sum.inl (l259, (w64 (sv131.2 + 1))))
  else
    some (Sum.inr sv131.1))
noncomputable def slices_Concat_Lapi_Stage_api_Stage (slices1 : (List (List Stage))) : Option (List Stage) :=
  (whileM (slices_Concat_Lapi_Stage_api_Stage_l1 slices1) (0, 0)).bind fun e74 =>
  (slices_Grow_Lapi_Stage_api_Stage_n e74).bind fun rv121 =>
  (whileM (slices_Concat_Lapi_Stage_api_Stage_l2 slices1) (rv121, 0)).bind fun e212 =>
  some e212

-- slices.Clone[[]seismonet/api.Stage,seismonet/api.Stage]
noncomputable def slices_Clone_Lapi_Stage_api_Stage (s1 : (List Stage)) : Option (List Stage) :=
  (appM 96 ([] : List Stage) s1).bind fun l11 =>
  some l11

-- slices.Clone[[]int,int]
noncomputable def slices_Clone_Lint_int (s1 : (List Int)) : Option (List Int) :=
  (appM 8 ([] : List Int) s1).bind fun l11 =>
  some l11

-- seismonet/response.copied
noncomputable def response_copied_l1 (rv6 : (List Stage)) (sv16 : ((List Stage) × Int)) : Option (((List Stage) × Int) ⊕ (List Stage)) :=
  (if (decide (sv16.2 < (rv6.length : Int))) = true then
    (ix sv16.1 sv16.2).bind fun x224 =>
    (slices_Clone_Lint_int x224.Taps).bind fun rv240 =>
    (ix sv16.1 sv16.2).bind fun x252 =>
    (setM sv16.1 sv16.2 (⟨x252.Kind, x252.Num, x252.Den, rv240, x252.Factor, x252.Shift⟩ : Stage)).bind fun l264 =>
    some (Sum.inl (l264, (w64 (sv16.2 + 1))))
  else
    some (Sum.inr sv16.1))
noncomputable def response_copied (l1 : (List Stage)) : Option (List Stage) :=
  (slices_Clone_Lapi_Stage_api_Stage l1).bind fun rv6 =>
  (whileM (response_copied_l1 rv6) (rv6, 0)).bind fun e169 =>
  some e169

-- seismonet/response.Join
noncomputable def response_Join (a1 : Response) (b5 : Response) : Option (Response × Int) :=
  (response_Valid a1).bind fun rv13 =>
  ((if (!rv13) = true then
    some true
  else
    (response_Valid b5).bind fun rv30 =>
    some (!rv30))).bind fun c27 =>
  (if c27 = true then
    some ((⟨([] : List Stage)⟩ : Response), 1)
  else
    (slices_Concat_Lapi_Stage_api_Stage ([a1.Stages, b5.Stages] : List (List Stage))).bind fun rv41 =>
    (response_copied rv41).bind fun rv53 =>
    (response_Valid (⟨rv53⟩ : Response)).bind fun rv66 =>
    (if (!rv66) = true then
      some ((⟨([] : List Stage)⟩ : Response), 8)
    else
      some ((⟨rv53⟩ : Response), 0)))

-- seismonet/seismonetref18.Join
noncomputable def ref18_Join (a1 : Response) (b5 : Response) : Option (Response × Int) :=
  (ref18_Valid a1).bind fun rv13 =>
  ((if (!rv13) = true then
    some true
  else
    (ref18_Valid b5).bind fun rv30 =>
    some (!rv30))).bind fun c27 =>
  (if c27 = true then
    some ((⟨([] : List Stage)⟩ : Response), 1)
  else
    (ref18_Copy a1).bind fun rv39 =>
    (ref18_Copy b5).bind fun rv45 =>
    (appM 96 rv39.Stages rv45.Stages).bind fun l84 =>
    (ref18_Valid (⟨l84⟩ : Response)).bind fun rv89 =>
    (if (!rv89) = true then
      some ((⟨([] : List Stage)⟩ : Response), 8)
    else
      some ((⟨l84⟩ : Response), 0)))

-- seismonet/response.Factor
noncomputable def response_Factor (r1 : Response) : Option (Int × Int) :=
  (response_Valid r1).bind fun rv7 =>
  (if (!rv7) = true then
    some (0, 1)
  else
    (response_factor r1.Stages).bind fun rv16 =>
    some (rv16, 0))

-- seismonet/seismonetref18.Factor
noncomputable def ref18_Factor (r1 : Response) : Option (Int × Int) :=
  (ref18_Valid r1).bind fun rv7 =>
  (if (!rv7) = true then
    some (0, 1)
  else
    (ref18_factor r1 0).bind fun rv16 =>
    some (rv16, 0))

-- seismonet/seismonetref18.SameStage
noncomputable def ref18_SameStage_l2 (a1 : Stage) (b5 : Stage) (sv116 : Int) : Option (Int ⊕ Bool) :=
  (if (decide (sv116 < (a1.Taps.length : Int))) = true then
    (ix a1.Taps sv116).bind fun x248 =>
    (ix b5.Taps sv116).bind fun x261 =>
    (if (x248 != x261) = true then
      some (Sum.inr false)
    else
      (some (w64 (sv116 + 1))).bind fun i277 =>
      some (Sum.inl i277))
  else
    Option.map Sum.inr (some true))
noncomputable def ref18_SameStage (a1 : Stage) (b5 : Stage) : Option Bool :=
  (if ((((((a1.Kind != b5.Kind) || (!((a1.Num.e0 == b5.Num.e0) && ((a1.Num.e1 == b5.Num.e1) && ((a1.Num.e2 == b5.Num.e2) && true))))) || (!((a1.Den.e0 == b5.Den.e0) && ((a1.Den.e1 == b5.Den.e1) && ((a1.Den.e2 == b5.Den.e2) && true))))) || (a1.Factor != b5.Factor)) || (a1.Shift != b5.Shift)) || ((a1.Taps.length : Int) != (b5.Taps.length : Int))) = true then
    some false
  else
    whileM (ref18_SameStage_l2 a1 b5) (0))

-- seismonet/seismonetref18.Same
noncomputable def ref18_Same_l2 (a1 : Response) (b5 : Response) (sv141 : Int) : Option (Int ⊕ Bool) :=
  (if (decide (sv141 < (a1.Stages.length : Int))) = true then
    (ix a1.Stages sv141).bind fun x313 =>
    (ix b5.Stages sv141).bind fun x330 =>
    (ref18_SameStage x313 x330).bind fun rv346 =>
    (if (!rv346) = true then
      some (Sum.inr false)
    else
      (some (w64 (sv141 + 1))).bind fun i357 =>
      some (Sum.inl i357))
  else
    Option.map Sum.inr (some true))
noncomputable def ref18_Same (a1 : Response) (b5 : Response) : Option Bool :=
  (if ((a1.Stages.length : Int) != (b5.Stages.length : Int)) = true then
    some false
  else
    whileM (ref18_Same_l2 a1 b5) (0))

-- slices.EqualFunc[[]seismonet/api.Stage,[]seismonet/api.Stage,seismonet/api.Stage,seismonet/api.Stage]
noncomputable def slices_EqualFunc_Lapi_Stage_Lapi_Stage_api_Stage_api_Stage_l2 (s1_1 : (List Stage)) (s2_5 : (List Stage)) (eq9 : Stage → Stage → Option Bool) (sv153 : Int) : Option (Int ⊕ Bool) :=
  (if (decide (sv153 < (s1_1.length : Int))) = true then
    (ix s1_1 sv153).bind fun x339 =>
    (ix s2_5 sv153).bind fun x357 =>
    (eq9 x339 x357).bind fun rv374 =>
    (if (!rv374) = true then
      some (Sum.inr false)
    else
      some (Sum.inl (w64 (sv153 + 1))))
  else
    Option.map Sum.inr (some true))
noncomputable def slices_EqualFunc_Lapi_Stage_Lapi_Stage_api_Stage_api_Stage (s1_1 : (List Stage)) (s2_5 : (List Stage)) (eq9 : Stage → Stage → Option Bool) : Option Bool :=
  (if ((s1_1.length : Int) != (s2_5.length : Int)) = true then
    some false
  else
    whileM (slices_EqualFunc_Lapi_Stage_Lapi_Stage_api_Stage_api_Stage_l2 s1_1 s2_5 eq9) (0))

-- slices.Equal[[]int,int]
noncomputable def slices_Equal_Lint_int_l2 (s1_1 : (List Int)) (s2_5 : (List Int)) (sv103 : Int) : Option (Int ⊕ Bool) :=
  (if (decide (sv103 < (s1_1.length : Int))) = true then
    (ix s1_1 sv103).bind fun x229 =>
    (ix s2_5 sv103).bind fun x242 =>
    (if (x229 != x242) = true then
      some (Sum.inr false)
    else
      some (Sum.inl (w64 (sv103 + 1))))
  else
    Option.map Sum.inr (some true))
noncomputable def slices_Equal_Lint_int (s1_1 : (List Int)) (s2_5 : (List Int)) : Option Bool :=
  (if ((s1_1.length : Int) != (s2_5.length : Int)) = true then
    some false
  else
    whileM (slices_Equal_Lint_int_l2 s1_1 s2_5) (0))

-- seismonet/response.Same$1
noncomputable def response_Same_fn1 (x1 : Stage) (y5 : Stage) : Option Bool :=
  ((if (((x1.Kind == y5.Kind) && ((x1.Num.e0 == y5.Num.e0) && ((x1.Num.e1 == y5.Num.e1) && ((x1.Num.e2 == y5.Num.e2) && true)))) && ((x1.Den.e0 == y5.Den.e0) && ((x1.Den.e1 == y5.Den.e1) && ((x1.Den.e2 == y5.Den.e2) && true)))) = true then
    (slices_Equal_Lint_int x1.Taps y5.Taps).bind fun rv24 =>
    some rv24
  else
    some false)).bind fun c21 =>
  some ((c21 && (x1.Factor == y5.Factor)) && (x1.Shift == y5.Shift))

-- seismonet/response.Same
noncomputable def response_Same (a1 : Response) (b5 : Response) : Option Bool :=
  (slices_EqualFunc_Lapi_Stage_Lapi_Stage_api_Stage_api_Stage a1.Stages b5.Stages response_Same_fn1).bind fun rv12 =>
  some rv12

-- seismonet/response.Sum
noncomputable def response_Sum (s1 : Stage) : Option (Int × Int) :=
  (response_ValidStage s1).bind fun rv7 =>
  (if ((!rv7) || (s1.Kind != 2)) = true then
    some (0, 1)
  else
    (response_sum s1.Taps).bind fun rv17 =>
    some (rv17, 0))

-- seismonet/seismonetref18.Sum
noncomputable def ref18_Sum (s1 : Stage) : Option (Int × Int) :=
  (ref18_ValidStage s1).bind fun rv7 =>
  (if ((!rv7) || (s1.Kind != 2)) = true then
    some (0, 1)
  else
    (ref18_total s1.Taps).bind fun rv17 =>
    some (rv17, 0))

-- seismonet/seismonetlaw18.ResponseExact
noncomputable def law18_ResponseExact_l31 (sv2136 : ((List Int) × Int × Int)) (x4472 : Response) (rv5004 : (Rate × Dice)) (sv5711 : Int) : Option (Int ⊕ (((List Int) × Int × Int) ⊕ Bool)) :=
  (if (decide (sv5711 < (x4472.Stages.length : Int))) = true then
    (ix x4472.Stages sv5711).bind fun x5881 =>
    (response_Sum x5881).bind fun rv5898 =>
    (ref18_Sum x5881).bind fun rv5905 =>
    (if ((rv5898.1 != rv5905.1) || (rv5898.2 != rv5905.2)) = true then
      some true
    else
      (response_ValidStage x5881).bind fun rv5912 =>
      (ref18_ValidStage x5881).bind fun rv5914 =>
      some (!(rv5912 == rv5914))).bind fun c5915 =>
    (if c5915 = true then
      some (Sum.inr (Sum.inr false))
    else
      some (Sum.inl (w64 (sv5711 + 1))))
  else
    Option.map Sum.inr (some (Sum.inl (rv5004.2.L, rv5004.2.At, (w64 (sv2136.2.2 + 1))))))
noncomputable def law18_ResponseExact_l29 (rate9 : Rate) (rv287 : (Response × Dice)) (rv301 : (Response × Dice)) (sv2136 : ((List Int) × Int × Int)) (x4472 : Response) (rv5004 : (Rate × Dice)) (sv5171 : Int) : Option (Int ⊕ (((List Int) × Int × Int) ⊕ Bool)) :=
  (if (decide (sv5171 < (([rate9, rv5004.1, (⟨2, 2⟩ : Rate)] : List Rate).length : Int))) = true then
    (ix ([rate9, rv5004.1, (⟨2, 2⟩ : Rate)] : List Rate) sv5171).bind fun x5381 =>
    (response_Input x4472 x5381).bind fun rv5390 =>
    (ref18_Input x4472 x5381).bind fun rv5398 =>
    (response_Delay x4472 x5381).bind fun rv5406 =>
    (ref18_Delay x4472 x5381).bind fun rv5414 =>
    (if ((((!((rv5390.1.Num == rv5398.1.Num) && ((rv5390.1.Den == rv5398.1.Den) && true))) || (rv5390.2 != rv5398.2)) || (!((rv5406.1.Num == rv5414.1.Num) && ((rv5406.1.Den == rv5414.1.Den) && true)))) || (rv5406.2 != rv5414.2)) = true then
      some (Sum.inr (Sum.inr false))
    else
      some (Sum.inl (w64 (sv5171 + 1))))
  else
    Option.map Sum.inr ((response_Join x4472 rv301.1).bind fun rv5432 =>
    (ref18_Join x4472 rv301.1).bind fun rv5444 =>
    (response_Factor x4472).bind fun rv5456 =>
    (ref18_Factor x4472).bind fun rv5463 =>
    (if (rv5432.2 != rv5444.2) = true then
      some true
    else
      (ref18_Same rv5432.1 rv5444.1).bind fun rv5470 =>
      some (!rv5470)).bind fun c5471 =>
    (if ((c5471 || (rv5456.1 != rv5463.1)) || (rv5456.2 != rv5463.2)) = true then
      some true
    else
      (response_Valid x4472).bind fun rv5473 =>
      (ref18_Valid x4472).bind fun rv5475 =>
      some (!(rv5473 == rv5475))).bind fun c5476 =>
    (if c5476 = true then
      some true
    else
      (response_Same x4472 rv287.1).bind fun rv5478 =>
      (ref18_Same x4472 rv287.1).bind fun rv5480 =>
      some (!(rv5478 == rv5480))).bind fun c5481 =>
    (if c5481 = true then
      some (Sum.inr false)
    else
      whileM (law18_ResponseExact_l31 sv2136 x4472 rv5004) (0))))
noncomputable def law18_ResponseExact_l27 (rate9 : Rate) (num10 : Int) (den11 : Int) (rv287 : (Response × Dice)) (rv301 : (Response × Dice)) (sv2136 : ((List Int) × Int × Int)) (x4472 : Response) (rv4485 : (Int × Dice)) (rv4495 : (Int × Dice)) (rv4507 : (Int × Dice)) (rv4520 : (Int × Dice)) (sv4708 : Int) : Option (Int ⊕ (((List Int) × Int × Int) ⊕ Bool)) :=
  (if (decide (sv4708 < (([(⟨num10, den11⟩ : (Arr2 Int)), (⟨rv4485.1, (w64 (1 + rv4495.1))⟩ : (Arr2 Int)), (⟨rv4507.1, rv4520.1⟩ : (Arr2 Int))] : List (Arr2 Int)).length : Int))) = true then
    (ix ([(⟨num10, den11⟩ : (Arr2 Int)), (⟨rv4485.1, (w64 (1 + rv4495.1))⟩ : (Arr2 Int)), (⟨rv4507.1, rv4520.1⟩ : (Arr2 Int))] : List (Arr2 Int)) sv4708).bind fun x4946 =>
    (response_Gain x4472 x4946.e0 x4946.e1).bind fun rv4955 =>
    (ref18_Gain x4472 x4946.e0 x4946.e1).bind fun rv4969 =>
    ((if (rv4955.2 != rv4969.2) = true then
      some true
    else
      (ref17_SameFraction rv4955.1 rv4969.1).bind fun rv4993 =>
      some (!rv4993))).bind fun c4990 =>
    (if c4990 = true then
      some (Sum.inr (Sum.inr false))
    else
      some (Sum.inl (w64 (sv4708 + 1))))
  else
    Option.map Sum.inr ((made_Dice_Rate rv4520.2).bind fun rv5004 =>
    whileM (law18_ResponseExact_l29 rate9 rv287 rv301 sv2136 x4472 rv5004) (0)))
noncomputable def law18_ResponseExact_l19 (raw5 : Response) (rate9 : Rate) (num10 : Int) (den11 : Int) (rv287 : (Response × Dice)) (rv301 : (Response × Dice)) (l349 : (List Stage)) (sv2136 : ((List Int) × Int × Int)) : Option (((List Int) × Int × Int) ⊕ Bool) :=
  (if (decide (sv2136.2.2 < (([rv287.1, (⟨l349⟩ : Response), raw5] : List Response).length : Int))) = true then
    (ix ([rv287.1, (⟨l349⟩ : Response), raw5] : List Response) sv2136.2.2).bind fun x4472 =>
    (made_Dice_Next (⟨sv2136.1, sv2136.2.1⟩ : Dice) 5).bind fun rv4485 =>
    (made_Dice_Next rv4485.2 3).bind fun rv4495 =>
    (made_Dice_Pick rv4495.2 ([0, 65536, 65537, (-1)] : List Int)).bind fun rv4507 =>
    (made_Dice_Pick rv4507.2 ([1, 65536, 0, 65537] : List Int)).bind fun rv4520 =>
    whileM (law18_ResponseExact_l27 rate9 num10 den11 rv287 rv301 sv2136 x4472 rv4485 rv4495 rv4507 rv4520) (0)
  else
    Option.map Sum.inr ((law18_sane).bind fun rv5950 =>
    some rv5950))
noncomputable def law18_ResponseExact_l2 (t1 : (List Int)) (raw5 : Response) (rate9 : Rate) (num10 : Int) (den11 : Int) (sv124 : Int) : Option (Int ⊕ Bool) :=
  (if (decide (sv124 < (raw5.Stages.length : Int))) = true then
    (ix raw5.Stages sv124).bind fun x242 =>
    (if (decide (200 < (x242.Taps.length : Int))) = true then
      (law18_sane).bind fun rv268 =>
      some (Sum.inr rv268)
    else
      some (Sum.inl (w64 (sv124 + 1))))
  else
    Option.map Sum.inr ((made_Roll t1).bind fun rv276 =>
    (made_Dice_Response rv276).bind fun rv287 =>
    (made_Dice_Response rv287.2).bind fun rv301 =>
    (ref18_Copy rv287.1).bind fun rv317 =>
    (made_Dice_Stage rv301.2).bind fun rv330 =>
    (law18_odd rv330.2 rv330.1).bind fun rv339 =>
    (appM 96 rv317.Stages ([rv339.1] : List Stage)).bind fun l349 =>
    whileM (law18_ResponseExact_l19 raw5 rate9 num10 den11 rv287 rv301 l349) (rv339.2.L, rv339.2.At, 0)))
noncomputable def law18_ResponseExact (t1 : (List Int)) (raw5 : Response) (rate9 : Rate) (num10 : Int) (den11 : Int) : Option Bool :=
  (made_Light t1).bind fun rv15 =>
  (if ((!rv15) || (decide (12 < (raw5.Stages.length : Int)))) = true then
    (law18_sane).bind fun rv32 =>
    some rv32
  else
    whileM (law18_ResponseExact_l2 t1 raw5 rate9 num10 den11) (0))

end Go.Proofs.Ytoendkojgjobbaa.Sh

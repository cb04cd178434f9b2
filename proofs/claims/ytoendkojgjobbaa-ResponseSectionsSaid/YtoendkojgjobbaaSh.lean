/- Each Go function as a plain program over lists and numbers (none: a panic, or no end). Printed by a program of ours out of the translation. -/
import Derived.Test.YtoendkojgjobbaaShData
namespace Go.Proofs.Ytoendkojgjobbaa.Sh
open Go
set_option linter.unusedVariables false

-- seismonet/seismonetmade.Light
noncomputable def made_Light (l1 : (List Int)) : Option Bool :=
  some (decide ((l1.length : Int) ≤ 500))

-- slices.IndexFunc[[]seismonet/api.Stage,seismonet/api.Stage]
noncomputable def slices_IndexFunc_Lapi_Stage_api_Stage_l2 (s1 : (List Stage)) (f5 : Stage → Option Bool) (sv90 : Int) : Option (Int ⊕ Int) :=
  (if (decide (sv90 < (s1.length : Int))) = true then
    (ix s1 sv90).bind fun x200 =>
    (f5 x200).bind fun rv216 =>
    (if rv216 = true then
      some (Sum.inr sv90)
    else
      some (Sum.inl (w64 (sv90 + 1))))
  else
    Option.map Sum.inr (some (-1)))
noncomputable def slices_IndexFunc_Lapi_Stage_api_Stage (s1 : (List Stage)) (f5 : Stage → Option Bool) : Option Int :=
  whileM (slices_IndexFunc_Lapi_Stage_api_Stage_l2 s1 f5) (0)

-- slices.ContainsFunc[[]seismonet/api.Stage,seismonet/api.Stage]
noncomputable def slices_ContainsFunc_Lapi_Stage_api_Stage (s1 : (List Stage)) (f5 : Stage → Option Bool) : Option Bool :=
  (slices_IndexFunc_Lapi_Stage_api_Stage s1 f5).bind fun rv11 =>
  some (decide (0 ≤ rv11))

-- seismonet/response.in
noncomputable def response_in (n1 : Int) (low2 : Int) (high3 : Int) : Option Bool :=
  some ((decide (low2 ≤ n1)) && (decide (n1 ≤ high3)))

-- slices.IndexFunc[[]int,int]
noncomputable def slices_IndexFunc_Lint_int_l2 (s1 : (List Int)) (f5 : Int → Option Bool) (sv78 : Int) : Option (Int ⊕ Int) :=
  (if (decide (sv78 < (s1.length : Int))) = true then
    (ix s1 sv78).bind fun x172 =>
    (f5 x172).bind fun rv184 =>
    (if rv184 = true then
      some (Sum.inr sv78)
    else
      some (Sum.inl (w64 (sv78 + 1))))
  else
    Option.map Sum.inr (some (-1)))
noncomputable def slices_IndexFunc_Lint_int (s1 : (List Int)) (f5 : Int → Option Bool) : Option Int :=
  whileM (slices_IndexFunc_Lint_int_l2 s1 f5) (0)

-- slices.ContainsFunc[[]int,int]
noncomputable def slices_ContainsFunc_Lint_int (s1 : (List Int)) (f5 : Int → Option Bool) : Option Bool :=
  (slices_IndexFunc_Lint_int s1 f5).bind fun rv11 =>
  some (decide (0 ≤ rv11))

-- seismonet/response.terms$1
noncomputable def response_terms_fn1 (n1 : Int) : Option Bool :=
  (response_in n1 (-1048576) 1048576).bind fun rv3 =>
  some (!rv3)

-- seismonet/response.terms
noncomputable def response_terms (l1 : (List Int)) : Option Bool :=
  (slices_ContainsFunc_Lint_int l1 response_terms_fn1).bind fun rv6 =>
  some (!rv6)

-- seismonet/response.sum
noncomputable def response_sum_l1 (l1 : (List Int)) (sv5 : (Int × Int)) : Option ((Int × Int) ⊕ Int) :=
  (if (decide (sv5.2 < (l1.length : Int))) = true then
    (ix l1 sv5.2).bind fun x80 =>
    (some (w64 (sv5.1 + x80))).bind fun n92 =>
    some (Sum.inl (n92, (w64 (sv5.2 + 1))))
  else
    some (Sum.inr sv5.1))
noncomputable def response_sum (l1 : (List Int)) : Option Int :=
  (whileM (response_sum_l1 l1) (0, 0)).bind fun e59 =>
  some e59

-- seismonet/response.ValidStage
noncomputable def response_ValidStage (s1 : Stage) : Option Bool :=
  (if (s1.Kind == 0) = true then
    ((if ((((((s1.Taps.length : Int) == 0) && (s1.Factor == 0)) && (s1.Shift == 0)) && ((s1.Num.e0 == s1.Num.e0) && ((s1.Num.e1 == 0) && ((s1.Num.e2 == 0) && true)))) && ((s1.Den.e0 == s1.Den.e0) && ((s1.Den.e1 == 0) && ((s1.Den.e2 == 0) && true)))) = true then
      (response_in s1.Num.e0 1 1048576).bind fun rv356 =>
      some rv356
    else
      some false)).bind fun c353 =>
    ((if c353 = true then
      (response_in s1.Den.e0 1 1048576).bind fun rv373 =>
      some rv373
    else
      some false)).bind fun c370 =>
    some c370
  else
    (if (s1.Kind == 1) = true then
      ((if ((((s1.Taps.length : Int) == 0) && (s1.Factor == 0)) && (s1.Shift == 0)) = true then
        (response_terms ([s1.Num.e0, s1.Num.e1, s1.Num.e2] : List Int)).bind fun rv523 =>
        some rv523
      else
        some false)).bind fun c519 =>
      ((if c519 = true then
        (response_terms ([s1.Den.e0, s1.Den.e1, s1.Den.e2] : List Int)).bind fun rv541 =>
        some rv541
      else
        some false)).bind fun c538 =>
      some (c538 && (s1.Den.e0 != 0))
    else
      (if (s1.Kind == 2) = true then
        ((if (((s1.Num.e0 == 0) && ((s1.Num.e1 == 0) && ((s1.Num.e2 == 0) && true))) && ((s1.Den.e0 == 0) && ((s1.Den.e1 == 0) && ((s1.Den.e2 == 0) && true)))) = true then
          (response_in (s1.Taps.length : Int) 1 128).bind fun rv650 =>
          some rv650
        else
          some false)).bind fun c647 =>
        ((if c647 = true then
          (response_terms s1.Taps).bind fun rv667 =>
          some rv667
        else
          some false)).bind fun c664 =>
        ((if c664 = true then
          (response_sum s1.Taps).bind fun rv684 =>
          some (rv684 != 0)
        else
          some false)).bind fun c681 =>
        ((if c681 = true then
          (response_in s1.Factor 1 64).bind fun rv701 =>
          some rv701
        else
          some false)).bind fun c698 =>
        ((if c698 = true then
          (response_in s1.Shift 0 40).bind fun rv718 =>
          some rv718
        else
          some false)).bind fun c715 =>
        some c715
      else
        some false)))

-- seismonet/response.Valid$1
noncomputable def response_Valid_fn1 (s1 : Stage) : Option Bool :=
  (response_ValidStage s1).bind fun rv7 =>
  some (!rv7)

-- seismonet/response.factor
noncomputable def response_factor_j1 (sv85 : (Int × Int)) (n192 : Int) : Option ((Int × Int) ⊕ Int) :=
  some (Sum.inl (n192, (w64 (sv85.2 + 1))))
noncomputable def response_factor_l2 (l1 : (List Stage)) (sv85 : (Int × Int)) : Option ((Int × Int) ⊕ Int) :=
  (if (decide (sv85.2 < (l1.length : Int))) = true then
    (ix l1 sv85.2).bind fun x195 =>
    (if (x195.Kind != 2) = true then
      response_factor_j1 sv85 sv85.1
    else
      (some (w64 (sv85.1 * x195.Factor))).bind fun n214 =>
      (if (decide (64 < n214)) = true then
        some (Sum.inr 0)
      else
        response_factor_j1 sv85 n214))
  else
    Option.map Sum.inr (some sv85.1))
noncomputable def response_factor (l1 : (List Stage)) : Option Int :=
  whileM (response_factor_l2 l1) (1, 0)

-- seismonet/response.Valid
noncomputable def response_Valid (r1 : Response) : Option Bool :=
  ((if (decide (8 < (r1.Stages.length : Int))) = true then
    some true
  else
    (slices_ContainsFunc_Lapi_Stage_api_Stage r1.Stages response_Valid_fn1).bind fun rv17 =>
    some rv17)).bind fun c14 =>
  (if c14 = true then
    some false
  else
    (response_factor r1.Stages).bind fun rv26 =>
    some (decide (0 < rv26)))

-- seismonet/nat.From
noncomputable def nat_From_l1 (sv4 : (Int × (List Int))) : Option ((Int × (List Int)) ⊕ (List Int)) :=
  (if (decide (0 < sv4.1)) = true then
    (appM 8 sv4.2 ([(Int.tmod sv4.1 1073741824)] : List Int)).bind fun l63 =>
    (shrM .i64 sv4.1 30).bind fun shr68 =>
    some (Sum.inl (shr68, l63))
  else
    some (Sum.inr sv4.2))
noncomputable def nat_From (n1 : Int) : Option ((List Int) × Int) :=
  (if (decide (n1 < 0)) = true then
    some (([] : List Int), 2)
  else
    (whileM (nat_From_l1) (n1, ([] : List Int))).bind fun e46 =>
    some (e46, 0))

-- slices.IndexFunc[seismonet/api.Nat,int]
noncomputable def slices_IndexFunc_api_Nat_int_l2 (s1 : (List Int)) (f5 : Int → Option Bool) (sv78 : Int) : Option (Int ⊕ Int) :=
  (if (decide (sv78 < (s1.length : Int))) = true then
    (ix s1 sv78).bind fun x172 =>
    (f5 x172).bind fun rv184 =>
    (if rv184 = true then
      some (Sum.inr sv78)
    else
      some (Sum.inl (w64 (sv78 + 1))))
  else
    Option.map Sum.inr (some (-1)))
noncomputable def slices_IndexFunc_api_Nat_int (s1 : (List Int)) (f5 : Int → Option Bool) : Option Int :=
  whileM (slices_IndexFunc_api_Nat_int_l2 s1 f5) (0)

-- slices.ContainsFunc[seismonet/api.Nat,int]
noncomputable def slices_ContainsFunc_api_Nat_int (s1 : (List Int)) (f5 : Int → Option Bool) : Option Bool :=
  (slices_IndexFunc_api_Nat_int s1 f5).bind fun rv11 =>
  some (decide (0 ≤ rv11))

-- seismonet/nat.Valid$1
noncomputable def nat_Valid_fn1 (x1 : Int) : Option Bool :=
  some ((decide (x1 < 0)) || (decide (1073741824 ≤ x1)))

-- seismonet/nat.Valid
noncomputable def nat_Valid (n1 : (List Int)) : Option Bool :=
  ((if (decide (64 < (n1.length : Int))) = true then
    some true
  else
    ((if (decide (0 < (n1.length : Int))) = true then
      (ix n1 (w64 ((n1.length : Int) - 1))).bind fun x55 =>
      some (x55 == 0)
    else
      some false)).bind fun c51 =>
    some c51)).bind fun c35 =>
  (if c35 = true then
    some false
  else
    (slices_ContainsFunc_api_Nat_int n1 nat_Valid_fn1).bind fun rv69 =>
    some (!rv69))

-- seismonet/nat.both
noncomputable def nat_both (a1 : (List Int)) (b5 : (List Int)) : Option Bool :=
  (nat_Valid a1).bind fun rv10 =>
  ((if rv10 = true then
    (nat_Valid b5).bind fun rv27 =>
    some rv27
  else
    some false)).bind fun c24 =>
  some c24

-- seismonet/nat.digit
noncomputable def nat_digit (n1 : (List Int)) (i5 : Int) : Option Int :=
  (if (decide ((n1.length : Int) ≤ i5)) = true then
    some 0
  else
    (ix n1 i5).bind fun x10 =>
    some x10)

-- seismonet/nat.trim
noncomputable def nat_trim_l1 (sv5 : (List Int)) : Option ((List Int) ⊕ (List Int)) :=
  ((if (decide (0 < (sv5.length : Int))) = true then
    (ix sv5 (w64 ((sv5.length : Int) - 1))).bind fun x145 =>
    some (x145 == 0)
  else
    some false)).bind fun c141 =>
  (if c141 = true then
    (subM sv5 0 (w64 ((sv5.length : Int) - 1))).bind fun l169 =>
    some (Sum.inl l169)
  else
    some (Sum.inr sv5))
noncomputable def nat_trim (n1 : (List Int)) : Option (List Int) :=
  (whileM (nat_trim_l1) (n1)).bind fun e123 =>
  some e123

-- seismonet/nat.multiply
noncomputable def nat_multiply_j1 (sv660 : ((List Int) × Int × Int)) (out880 : (List Int)) (carry881 : Int) : Option (((List Int) × Int × Int) ⊕ (List Int)) :=
  some (Sum.inl (out880, carry881, (w64 (sv660.2.2 + 1))))
noncomputable def nat_multiply_l6 (b5 : (List Int)) (sv13 : ((List Int) × Int)) (x649 : Int) (sv660 : ((List Int) × Int × Int)) : Option (((List Int) × Int × Int) ⊕ (List Int)) :=
  (if (decide (sv660.2.2 < (w64 ((b5.length : Int) + 1)))) = true then
    (if (decide ((w64 (sv13.2 + sv660.2.2)) < (sv660.1.length : Int))) = true then
      (ix sv660.1 (w64 (sv13.2 + sv660.2.2))).bind fun x885 =>
      (nat_digit b5 sv660.2.2).bind fun rv897 =>
      (some (w64 (sv660.2.1 + (w64 (x885 + (w64 (x649 * rv897))))))).bind fun carry899 =>
      (ix sv660.1 (w64 (sv13.2 + sv660.2.2))).bind fun x908 =>
      (setM sv660.1 (w64 (sv13.2 + sv660.2.2)) (Int.tmod carry899 1073741824)).bind fun l916 =>
      (shrM .i64 carry899 30).bind fun shr920 =>
      nat_multiply_j1 sv660 l916 shr920
    else
      nat_multiply_j1 sv660 sv660.1 sv660.2.1)
  else
    some (Sum.inr sv660.1))
noncomputable def nat_multiply_l3 (a1 : (List Int)) (b5 : (List Int)) (sv13 : ((List Int) × Int)) : Option (((List Int) × Int) ⊕ (List Int)) :=
  (if (decide (sv13.2 < (a1.length : Int))) = true then
    (ix a1 sv13.2).bind fun x649 =>
    (whileM (nat_multiply_l6 b5 sv13 x649) (sv13.1, 0, 0)).bind fun e795 =>
    some (Sum.inl (e795, (w64 (sv13.2 + 1))))
  else
    some (Sum.inr sv13.1))
noncomputable def nat_multiply (a1 : (List Int)) (b5 : (List Int)) : Option (List Int) :=
  (makeM 8 (0 : Int) (w64 ((a1.length : Int) + (b5.length : Int)))).bind fun l10 =>
  (whileM (nat_multiply_l3 a1 b5) (l10, 0)).bind fun e487 =>
  (nat_trim e487).bind fun rv925 =>
  some rv925

-- seismonet/nat.limited
noncomputable def nat_limited (n1 : (List Int)) : Option ((List Int) × Int) :=
  (nat_trim n1).bind fun rv6 =>
  (if (decide (64 < (rv6.length : Int))) = true then
    some (([] : List Int), 8)
  else
    some (rv6, 0))

-- seismonet/nat.Mul
noncomputable def nat_Mul (a1 : (List Int)) (b5 : (List Int)) : Option ((List Int) × Int) :=
  (nat_both a1 b5).bind fun rv10 =>
  (if (!rv10) = true then
    some (([] : List Int), 1)
  else
    (nat_multiply a1 b5).bind fun rv19 =>
    (nat_limited rv19).bind fun rv29 =>
    some (rv29.1, rv29.2))

-- seismonet/response.square
noncomputable def response_square (n1 : Int) : Option (List Int) :=
  (nat_From (max n1 (w64 (0 - n1)))).bind fun rv3 =>
  (nat_Mul rv3.1 rv3.1).bind fun rv14 =>
  some rv14.1

-- seismonet/nat.Add
noncomputable def nat_Add_l1 (a1 : (List Int)) (b5 : (List Int)) (sv18 : ((List Int) × Int × Int)) : Option (((List Int) × Int × Int) ⊕ (List Int)) :=
  (if (decide (sv18.2.2 < (w64 ((max (a1.length : Int) (b5.length : Int)) + 1)))) = true then
    (nat_digit a1 sv18.2.2).bind fun rv141 =>
    (nat_digit b5 sv18.2.2).bind fun rv148 =>
    (some (w64 (sv18.2.1 + (w64 (rv141 + rv148))))).bind fun carry155 =>
    (appM 8 sv18.1 ([(Int.tmod carry155 1073741824)] : List Int)).bind fun l159 =>
    (shrM .i64 carry155 30).bind fun shr164 =>
    some (Sum.inl (l159, shr164, (w64 (sv18.2.2 + 1))))
  else
    some (Sum.inr sv18.1))
noncomputable def nat_Add (a1 : (List Int)) (b5 : (List Int)) : Option ((List Int) × Int) :=
  (nat_both a1 b5).bind fun rv10 =>
  (if (!rv10) = true then
    some (([] : List Int), 1)
  else
    (whileM (nat_Add_l1 a1 b5) (([] : List Int), 0, 0)).bind fun e108 =>
    (nat_limited e108).bind fun rv167 =>
    some (rv167.1, rv167.2))

-- seismonet/response.squared
noncomputable def response_squared (a1 : (Arr3 Int)) (num2 : Int) (den3 : Int) : Option (List Int) :=
  (response_square (w64 ((w64 ((w64 (a1.e0 * den3)) * den3)) - (w64 ((w64 (a1.e2 * num2)) * num2))))).bind fun rv6 =>
  (response_square (w64 ((w64 (a1.e1 * num2)) * den3))).bind fun rv11 =>
  (nat_Add rv6 rv11).bind fun rv16 =>
  some rv16.1

-- seismonet/response.gain
noncomputable def response_gain (s1 : Stage) (num5 : Int) (den6 : Int) : Option (Fraction × Bool) :=
  (if (s1.Kind == 0) = true then
    (response_square s1.Num.e0).bind fun rv63 =>
    (response_square s1.Den.e0).bind fun rv68 =>
    some ((⟨rv63, rv68⟩ : Fraction), true)
  else
    (if (s1.Kind == 1) = true then
      (response_squared s1.Num num5 den6).bind fun rv99 =>
      (response_squared s1.Den num5 den6).bind fun rv104 =>
      some ((⟨rv99, rv104⟩ : Fraction), (decide (0 < (rv104.length : Int))))
    else
      (response_sum s1.Taps).bind fun rv137 =>
      (response_square rv137).bind fun rv139 =>
      (shlM .i64 1 s1.Shift).bind fun shl144 =>
      (response_square shl144).bind fun rv146 =>
      some ((⟨rv139, rv146⟩ : Fraction), true)))

-- seismonet/nat.ValidFraction
noncomputable def nat_ValidFraction (f1 : Fraction) : Option Bool :=
  (nat_Valid f1.Num).bind fun rv10 =>
  ((if rv10 = true then
    (nat_Valid f1.Den).bind fun rv27 =>
    some rv27
  else
    some false)).bind fun c24 =>
  some (c24 && (decide (0 < (f1.Den.length : Int))))

-- seismonet/nat.Times
noncomputable def nat_Times (a1 : Fraction) (b8 : Fraction) : Option (Fraction × Int) :=
  (nat_ValidFraction a1).bind fun rv19 =>
  ((if (!rv19) = true then
    some true
  else
    (nat_ValidFraction b8).bind fun rv36 =>
    some (!rv36))).bind fun c33 =>
  (if c33 = true then
    some ((⟨([] : List Int), ([] : List Int)⟩ : Fraction), 1)
  else
    (nat_multiply a1.Num b8.Num).bind fun rv45 =>
    (nat_limited rv45).bind fun rv55 =>
    (nat_multiply a1.Den b8.Den).bind fun rv65 =>
    (nat_limited rv65).bind fun rv75 =>
    (if ((rv55.2 != 0) || (rv75.2 != 0)) = true then
      some ((⟨([] : List Int), ([] : List Int)⟩ : Fraction), 8)
    else
      some ((⟨rv55.1, rv75.1⟩ : Fraction), 0)))

-- seismonet/response.Gain
noncomputable def response_Gain_l2 (r1 : Response) (num5 : Int) (den6 : Int) (sv210 : ((List Int) × (List Int) × Int)) : Option (((List Int) × (List Int) × Int) ⊕ (Fraction × Int)) :=
  (if (decide (sv210.2.2 < (r1.Stages.length : Int))) = true then
    (ix r1.Stages sv210.2.2).bind fun x424 =>
    (response_gain x424 num5 den6).bind fun rv441 =>
    (if (!rv441.2) = true then
      some (Sum.inr ((⟨([] : List Int), ([] : List Int)⟩ : Fraction), 11))
    else
      (nat_Times (⟨sv210.1, sv210.2.1⟩ : Fraction) rv441.1).bind fun rv458 =>
      (if (rv458.2 != 0) = true then
        some (Sum.inr ((⟨([] : List Int), ([] : List Int)⟩ : Fraction), rv458.2))
      else
        some (Sum.inl (rv458.1.Num, rv458.1.Den, (w64 (sv210.2.2 + 1))))))
  else
    Option.map Sum.inr (some ((⟨sv210.1, sv210.2.1⟩ : Fraction), 0)))
noncomputable def response_Gain (r1 : Response) (num5 : Int) (den6 : Int) : Option (Fraction × Int) :=
  (response_Valid r1).bind fun rv10 =>
  (if (!rv10) = true then
    some ((⟨([] : List Int), ([] : List Int)⟩ : Fraction), 1)
  else
    (response_in num5 0 65536).bind fun rv19 =>
    ((if (!rv19) = true then
      some true
    else
      (response_in den6 1 65536).bind fun rv36 =>
      some (!rv36))).bind fun c33 =>
    (if c33 = true then
      some ((⟨([] : List Int), ([] : List Int)⟩ : Fraction), 2)
    else
      whileM (response_Gain_l2 r1 num5 den6) (([1] : List Int), ([1] : List Int), 0)))

-- seismonet/seismonetref01.In
noncomputable def ref01_In (n1 : Int) (lo2 : Int) (hi3 : Int) : Option Bool :=
  some ((decide (lo2 ≤ n1)) && (decide (n1 ≤ hi3)))

-- seismonet/seismonetref17.Valid
noncomputable def ref17_Valid_l2 (n1 : (List Int)) (sv82 : Int) : Option (Int ⊕ Bool) :=
  (if (decide (sv82 < (n1.length : Int))) = true then
    (ix n1 sv82).bind fun x186 =>
    (ref01_In x186 0 1073741823).bind fun rv198 =>
    (if (!rv198) = true then
      some (Sum.inr false)
    else
      (some (w64 (sv82 + 1))).bind fun i208 =>
      some (Sum.inl i208))
  else
    Option.map Sum.inr (((if (decide ((n1.length : Int) ≤ 64)) = true then
      ((if ((n1.length : Int) == 0) = true then
        some true
      else
        (ix n1 (w64 ((n1.length : Int) - 1))).bind fun x259 =>
        some (x259 != 0))).bind fun c255 =>
      some c255
    else
      some false)).bind fun c239 =>
    some c239))
noncomputable def ref17_Valid (n1 : (List Int)) : Option Bool :=
  whileM (ref17_Valid_l2 n1) (0)

-- seismonet/seismonetref17.ValidFraction
noncomputable def ref17_ValidFraction (f1 : Fraction) : Option Bool :=
  (ref17_Valid f1.Num).bind fun rv10 =>
  ((if rv10 = true then
    (ref17_Valid f1.Den).bind fun rv27 =>
    some rv27
  else
    some false)).bind fun c24 =>
  some (c24 && (decide (0 < (f1.Den.length : Int))))

-- seismonet/seismonetref17.trim
noncomputable def ref17_trim_l1 (sv5 : (List Int)) : Option ((List Int) ⊕ (List Int)) :=
  ((if (decide (0 < (sv5.length : Int))) = true then
    (ix sv5 (w64 ((sv5.length : Int) - 1))).bind fun x145 =>
    some (x145 == 0)
  else
    some false)).bind fun c141 =>
  (if c141 = true then
    (subM sv5 0 (w64 ((sv5.length : Int) - 1))).bind fun l169 =>
    some (Sum.inl l169)
  else
    some (Sum.inr sv5))
noncomputable def ref17_trim (n1 : (List Int)) : Option (List Int) :=
  (whileM (ref17_trim_l1) (n1)).bind fun e123 =>
  some e123

-- seismonet/seismonetref17.mul
noncomputable def ref17_mul_j1 (sv13 : ((List Int) × Int)) (sv913 : ((List Int) × Int × Int)) (carry1242 : Int) : Option (((List Int) × Int × Int) ⊕ (List Int)) :=
  (ix sv913.1 (w64 (sv13.2 + sv913.2.2))).bind fun x1245 =>
  (setM sv913.1 (w64 (sv13.2 + sv913.2.2)) (Int.tmod carry1242 1073741824)).bind fun l1253 =>
  (some (w64 (Int.tdiv carry1242 1073741824))).bind fun carry1257 =>
  (some (w64 (sv913.2.2 + 1))).bind fun k1259 =>
  some (Sum.inl (l1253, carry1257, k1259))
noncomputable def ref17_mul_l6 (a1 : (List Int)) (b5 : (List Int)) (sv13 : ((List Int) × Int)) (sv913 : ((List Int) × Int × Int)) : Option (((List Int) × Int × Int) ⊕ (List Int)) :=
  (if ((decide (sv913.2.2 < (b5.length : Int))) || (decide (0 < sv913.2.1))) = true then
    (ix sv913.1 (w64 (sv13.2 + sv913.2.2))).bind fun x1198 =>
    (some (w64 (sv913.2.1 + x1198))).bind fun carry1210 =>
    (if (decide (sv913.2.2 < (b5.length : Int))) = true then
      (ix a1 sv13.2).bind fun x1263 =>
      (ix b5 sv913.2.2).bind fun x1276 =>
      (some (w64 (carry1210 + (w64 (x1263 * x1276))))).bind fun carry1288 =>
      ref17_mul_j1 sv13 sv913 carry1288
    else
      ref17_mul_j1 sv13 sv913 carry1210)
  else
    some (Sum.inr sv913.1))
noncomputable def ref17_mul_l3 (a1 : (List Int)) (b5 : (List Int)) (sv13 : ((List Int) × Int)) : Option (((List Int) × Int) ⊕ (List Int)) :=
  (if (decide (sv13.2 < (a1.length : Int))) = true then
    (whileM (ref17_mul_l6 a1 b5 sv13) (sv13.1, 0, 0)).bind fun e1126 =>
    (some (w64 (sv13.2 + 1))).bind fun i1293 =>
    some (Sum.inl (e1126, i1293))
  else
    some (Sum.inr sv13.1))
noncomputable def ref17_mul (a1 : (List Int)) (b5 : (List Int)) : Option (List Int) :=
  (makeM 8 (0 : Int) (w64 ((a1.length : Int) + (b5.length : Int)))).bind fun l10 =>
  (whileM (ref17_mul_l3 a1 b5) (l10, 0)).bind fun e688 =>
  (ref17_trim e688).bind fun rv1297 =>
  some rv1297

-- seismonet/seismonetref17.compare
noncomputable def ref17_compare_l2 (a1 : (List Int)) (b5 : (List Int)) (sv168 : Int) : Option (Int ⊕ Int) :=
  (if (decide (0 ≤ sv168)) = true then
    (ix a1 sv168).bind fun x372 =>
    (ix b5 sv168).bind fun x385 =>
    (if (x372 != x385) = true then
      (ix a1 sv168).bind fun x419 =>
      (ix b5 sv168).bind fun x427 =>
      (if (decide (x419 < x427)) = true then
        some (Sum.inr (-1))
      else
        some (Sum.inr 1))
    else
      (some (w64 (sv168 - 1))).bind fun i439 =>
      some (Sum.inl i439))
  else
    Option.map Sum.inr (some 0))
noncomputable def ref17_compare (a1 : (List Int)) (b5 : (List Int)) : Option Int :=
  (if ((a1.length : Int) != (b5.length : Int)) = true then
    (if (decide ((a1.length : Int) < (b5.length : Int))) = true then
      some (-1)
    else
      some 1)
  else
    (some (w64 ((a1.length : Int) - 1))).bind fun i15 =>
    whileM (ref17_compare_l2 a1 b5) (i15))

-- seismonet/seismonetref17.Equal
noncomputable def ref17_Equal (a1 : Fraction) (b8 : Fraction) : Option (Bool × Int) :=
  (ref17_ValidFraction a1).bind fun rv18 =>
  ((if (!rv18) = true then
    some true
  else
    (ref17_ValidFraction b8).bind fun rv35 =>
    some (!rv35))).bind fun c32 =>
  (if c32 = true then
    some (false, 1)
  else
    (ref17_mul a1.Num b8.Den).bind fun rv44 =>
    (ref17_mul b8.Num a1.Den).bind fun rv49 =>
    (ref17_compare rv44 rv49).bind fun rv54 =>
    some ((rv54 == 0), 0))

-- seismonet/rate.in
noncomputable def rate_in (n1 : Int) (low2 : Int) (high3 : Int) : Option Bool :=
  some ((decide (low2 ≤ n1)) && (decide (n1 ≤ high3)))

-- seismonet/rate.gcd
noncomputable def rate_gcd_l1 (sv3 : (Int × Int)) : Option ((Int × Int) ⊕ Int) :=
  (if (sv3.2 != 0) = true then
    (remM sv3.1 sv3.2).bind fun rem29 =>
    some (Sum.inl (sv3.2, rem29))
  else
    some (Sum.inr sv3.1))
noncomputable def rate_gcd (a1 : Int) (b2 : Int) : Option Int :=
  (whileM (rate_gcd_l1) (a1, b2)).bind fun e21 =>
  some e21

-- seismonet/rate.Valid
noncomputable def rate_Valid (r1 : Rate) : Option Bool :=
  (rate_in r1.Num 1 4096).bind fun rv4 =>
  ((if rv4 = true then
    (rate_in r1.Den 1 4096).bind fun rv21 =>
    some rv21
  else
    some false)).bind fun c18 =>
  ((if c18 = true then
    (rate_gcd r1.Num r1.Den).bind fun rv38 =>
    some (rv38 == 1)
  else
    some false)).bind fun c35 =>
  some c35

-- seismonet/response.symmetric
noncomputable def response_symmetric_l2 (l1 : (List Int)) (sv82 : Int) : Option (Int ⊕ Bool) :=
  (if (decide (sv82 < (l1.length : Int))) = true then
    (ix l1 sv82).bind fun x188 =>
    (ix l1 (w64 ((w64 ((l1.length : Int) - 1)) - sv82))).bind fun x201 =>
    (if (x188 != x201) = true then
      some (Sum.inr false)
    else
      some (Sum.inl (w64 (sv82 + 1))))
  else
    Option.map Sum.inr (some true))
noncomputable def response_symmetric (l1 : (List Int)) : Option Bool :=
  whileM (response_symmetric_l2 l1) (0)

-- seismonet/response.gcd
noncomputable def response_gcd_l1 (sv3 : (Int × Int)) : Option ((Int × Int) ⊕ Int) :=
  (if (sv3.2 != 0) = true then
    (remM sv3.1 sv3.2).bind fun rem29 =>
    some (Sum.inl (sv3.2, rem29))
  else
    some (Sum.inr sv3.1))
noncomputable def response_gcd (a1 : Int) (b2 : Int) : Option Int :=
  (whileM (response_gcd_l1) (a1, b2)).bind fun e21 =>
  some e21

-- seismonet/response.faster
noncomputable def response_faster (r1 : Rate) (n2 : Int) : Option (Rate × Bool) :=
  (response_gcd r1.Den n2).bind fun rv6 =>
  (quoM .i64 n2 rv6).bind fun quo13 =>
  (quoM .i64 r1.Den rv6).bind fun quo15 =>
  (rate_Valid (⟨(w64 (r1.Num * quo13)), quo15⟩ : Rate)).bind fun rv19 =>
  some ((⟨(w64 (r1.Num * quo13)), quo15⟩ : Rate), rv19)

-- seismonet/response.plus
noncomputable def response_plus (a1 : Ratio) (b2 : Ratio) : Option Ratio :=
  (some (w64 ((w64 (a1.Num * b2.Den)) + (w64 (b2.Num * a1.Den))))).bind fun num7 =>
  (some (w64 (a1.Den * b2.Den))).bind fun den9 =>
  (response_gcd num7 den9).bind fun rv12 =>
  (quoM .i64 num7 rv12).bind fun quo19 =>
  (quoM .i64 den9 rv12).bind fun quo21 =>
  some (⟨quo19, quo21⟩ : Ratio)

-- seismonet/response.Delay
noncomputable def response_Delay_j1 (sv489 : (Int × Int × Int)) (x679 : Int) (x680 : Int) : Option ((Int × Int × Int) ⊕ (Ratio × Int)) :=
  some (Sum.inl (x679, x680, (w64 (sv489.2.2 + 1))))
noncomputable def response_Delay_l4 (r1 : Response) (out5 : Rate) (sv489 : (Int × Int × Int)) : Option ((Int × Int × Int) ⊕ (Ratio × Int)) :=
  (if (decide (sv489.2.2 < (r1.Stages.length : Int))) = true then
    (ix r1.Stages sv489.2.2).bind fun x683 =>
    (if (x683.Kind != 2) = true then
      response_Delay_j1 sv489 sv489.1 sv489.2.1
    else
      (subM r1.Stages sv489.2.2 (r1.Stages.length : Int)).bind fun l706 =>
      (response_factor l706).bind fun rv708 =>
      (response_faster out5 rv708).bind fun rv710 =>
      (if (!rv710.2) = true then
        some (Sum.inr ((⟨0, 0⟩ : Ratio), 8))
      else
        (response_plus (⟨sv489.1, sv489.2.1⟩ : Ratio) (⟨(w64 ((w64 ((x683.Taps.length : Int) - 1)) * rv710.1.Den)), (w64 (2 * rv710.1.Num))⟩ : Ratio)).bind fun rv742 =>
        (if ((decide (1099511627776 < rv742.Num)) || (decide (1099511627776 < rv742.Den))) = true then
          some (Sum.inr ((⟨0, 0⟩ : Ratio), 8))
        else
          response_Delay_j1 sv489 rv742.Num rv742.Den)))
  else
    Option.map Sum.inr (some ((⟨sv489.1, sv489.2.1⟩ : Ratio), 0)))
noncomputable def response_Delay_l2 (r1 : Response) (out5 : Rate) (sv151 : Int) : Option (Int ⊕ (Ratio × Int)) :=
  (if (decide (sv151 < (r1.Stages.length : Int))) = true then
    (ix r1.Stages sv151).bind fun x309 =>
    ((if (x309.Kind == 2) = true then
      (response_symmetric x309.Taps).bind fun rv336 =>
      some (!rv336)
    else
      some false)).bind fun c333 =>
    (if c333 = true then
      some (Sum.inr ((⟨0, 0⟩ : Ratio), 11))
    else
      some (Sum.inl (w64 (sv151 + 1))))
  else
    Option.map Sum.inr (whileM (response_Delay_l4 r1 out5) (0, 1, 0)))
noncomputable def response_Delay (r1 : Response) (out5 : Rate) : Option (Ratio × Int) :=
  (response_Valid r1).bind fun rv10 =>
  ((if (!rv10) = true then
    some true
  else
    (rate_Valid out5).bind fun rv27 =>
    some (!rv27))).bind fun c24 =>
  (if c24 = true then
    some ((⟨0, 0⟩ : Ratio), 1)
  else
    whileM (response_Delay_l2 r1 out5) (0))

-- seismonet/seismonetlaw18.sane
noncomputable def law18_sane : Option Bool :=
  (response_Gain (⟨([(⟨1, (⟨1, 0, 0⟩ : (Arr3 Int)), (⟨1, 1, 0⟩ : (Arr3 Int)), ([] : List Int), 0, 0⟩ : Stage)] : List Stage)⟩ : Response) 1 1).bind fun rv5 =>
  (ref17_Equal rv5.1 (⟨([1] : List Int), ([2] : List Int)⟩ : Fraction)).bind fun rv24 =>
  (response_Delay (⟨([(⟨2, (⟨0, 0, 0⟩ : (Arr3 Int)), (⟨0, 0, 0⟩ : (Arr3 Int)), ([1, 2, 1] : List Int), 1, 2⟩ : Stage)] : List Stage)⟩ : Response) (⟨100, 1⟩ : Rate)).bind fun rv36 =>
  ((if (((((rv5.2 == 0) && (rv24.2 == 0)) && (rv36.2 == 0)) && rv24.1) && ((rv36.1.Num == 1) && ((rv36.1.Den == 100) && true))) = true then
    (response_ValidStage (⟨1, (⟨1, 0, 0⟩ : (Arr3 Int)), (⟨1, 1, 0⟩ : (Arr3 Int)), ([] : List Int), 0, 0⟩ : Stage)).bind fun rv58 =>
    some rv58
  else
    some false)).bind fun c55 =>
  some c55

-- seismonet/seismonetmade.Roll
noncomputable def made_Roll (l1 : (List Int)) : Option Dice :=
  some (⟨l1, 0⟩ : Dice)

-- (*seismonet/seismonetmade.Dice).Next
noncomputable def made_Dice_Next_j1 (d1 : Dice) (x33 : Int) : Option (Int × Dice) :=
  some (x33, (⟨d1.L, (w64 (d1.At + 1))⟩ : Dice))
noncomputable def made_Dice_Next (d1 : Dice) (n6 : Int) : Option (Int × Dice) :=
  (if ((decide ((d1.L.length : Int) ≤ d1.At)) || (decide (n6 < 1))) = true then
    some (0, d1)
  else
    (ix d1.L d1.At).bind fun x15 =>
    (remM x15 n6).bind fun rem27 =>
    (if (decide (rem27 < 0)) = true then
      (some (w64 (rem27 + n6))).bind fun x36 =>
      made_Dice_Next_j1 d1 x36
    else
      made_Dice_Next_j1 d1 rem27))

-- (*seismonet/seismonetmade.Dice).Pick
noncomputable def made_Dice_Pick (d1 : Dice) (l6 : (List Int)) : Option (Int × Dice) :=
  (made_Dice_Next d1 (l6.length : Int)).bind fun rv11 =>
  (ix l6 rv11.1).bind fun x22 =>
  some (x22, rv11.2)

-- (*seismonet/seismonetmade.Dice).Stage
noncomputable def made_Dice_Stage_l1 (sv394 : ((List Int) × Int × (List Int) × Int)) : Option (((List Int) × Int × (List Int) × Int) ⊕ ((List Int) × Int × (List Int))) :=
  (if (decide (0 < sv394.2.2.2)) = true then
    (made_Dice_Next (⟨sv394.1, sv394.2.1⟩ : Dice) 4).bind fun rv525 =>
    (appM 8 ([rv525.1] : List Int) sv394.2.2.1).bind fun l537 =>
    (appM 8 l537 ([rv525.1] : List Int)).bind fun l544 =>
    (some (w64 (sv394.2.2.2 - 1))).bind fun i549 =>
    some (Sum.inl (rv525.2.L, rv525.2.At, l544, i549))
  else
    some (Sum.inr (sv394.1, sv394.2.1, sv394.2.2.1)))
noncomputable def made_Dice_Stage_j2 (rv363 : (Int × Dice)) (rv374 : (Int × Dice)) (rv552 : (Int × Dice)) (x573 : (List Int)) : Option (Stage × Dice) :=
  some ((⟨2, (⟨0, 0, 0⟩ : (Arr3 Int)), (⟨0, 0, 0⟩ : (Arr3 Int)), x573, rv363.1, rv374.1⟩ : Stage), rv552.2)
noncomputable def made_Dice_Stage (d1 : Dice) : Option (Stage × Dice) :=
  (made_Dice_Next d1 3).bind fun rv8 =>
  (if (rv8.1 == 0) = true then
    (made_Dice_Next rv8.2 9).bind fun rv195 =>
    (made_Dice_Next rv195.2 9).bind fun rv205 =>
    some ((⟨0, (⟨(w64 (1 + rv195.1)), 0, 0⟩ : (Arr3 Int)), (⟨(w64 (1 + rv205.1)), 0, 0⟩ : (Arr3 Int)), ([] : List Int), 0, 0⟩ : Stage), rv205.2)
  else
    (if (rv8.1 == 1) = true then
      (made_Dice_Next rv8.2 9).bind fun rv283 =>
      (made_Dice_Next rv283.2 9).bind fun rv293 =>
      (made_Dice_Next rv293.2 3).bind fun rv303 =>
      (made_Dice_Pick rv303.2 ([1, 2, (-3), 1048576] : List Int)).bind fun rv315 =>
      (made_Dice_Next rv315.2 9).bind fun rv326 =>
      (made_Dice_Pick rv326.2 ([0, 1, 1048576] : List Int)).bind fun rv338 =>
      some ((⟨1, (⟨(w64 (rv283.1 - 4)), (w64 (rv293.1 - 4)), rv303.1⟩ : (Arr3 Int)), (⟨rv315.1, (w64 (rv326.1 - 4)), rv338.1⟩ : (Arr3 Int)), ([] : List Int), 0, 0⟩ : Stage), rv338.2)
    else
      (made_Dice_Next rv8.2 4).bind fun rv349 =>
      (made_Dice_Pick rv349.2 ([1, 1, 2, 5] : List Int)).bind fun rv363 =>
      (made_Dice_Next rv363.2 5).bind fun rv374 =>
      (made_Dice_Next rv374.2 3).bind fun rv385 =>
      (whileM (made_Dice_Stage_l1) (rv385.2.L, rv385.2.At, ([(w64 (1 + rv349.1))] : List Int), rv385.1)).bind fun e491 =>
      (made_Dice_Next (⟨e491.1, e491.2.1⟩ : Dice) 6).bind fun rv552 =>
      (if (rv552.1 == 0) = true then
        (appM 8 e491.2.2 ([3] : List Int)).bind fun l578 =>
        made_Dice_Stage_j2 rv363 rv374 rv552 l578
      else
        made_Dice_Stage_j2 rv363 rv374 rv552 e491.2.2)))

-- (*seismonet/seismonetmade.Dice).Response
noncomputable def made_Dice_Response_j1 (sv18 : ((List Int) × Int × (List Stage) × Int × Int)) (rv169 : (Stage × Dice)) (n188 : Int) : Option (((List Int) × Int × (List Stage) × Int × Int) ⊕ ((List Int) × Int × (List Stage))) :=
  (appM 96 sv18.2.2.1 ([rv169.1] : List Stage)).bind fun l193 =>
  (some (w64 (sv18.2.2.2.2 - 1))).bind fun i198 =>
  some (Sum.inl (rv169.2.L, rv169.2.At, l193, n188, i198))
noncomputable def made_Dice_Response_l1 (sv18 : ((List Int) × Int × (List Stage) × Int × Int)) : Option (((List Int) × Int × (List Stage) × Int × Int) ⊕ ((List Int) × Int × (List Stage))) :=
  (if (decide (0 < sv18.2.2.2.2)) = true then
    (made_Dice_Stage (⟨sv18.1, sv18.2.1⟩ : Dice)).bind fun rv169 =>
    (if (rv169.1.Kind == 2) = true then
      (some (w64 (sv18.2.2.2.1 * rv169.1.Factor))).bind fun n201 =>
      (if (decide (64 < n201)) = true then
        some (Sum.inr (rv169.2.L, rv169.2.At, sv18.2.2.1))
      else
        made_Dice_Response_j1 sv18 rv169 n201)
    else
      made_Dice_Response_j1 sv18 rv169 sv18.2.2.2.1)
  else
    some (Sum.inr (sv18.1, sv18.2.1, sv18.2.2.1)))
noncomputable def made_Dice_Response (d1 : Dice) : Option (Response × Dice) :=
  (made_Dice_Next d1 4).bind fun rv9 =>
  (whileM (made_Dice_Response_l1) (rv9.2.L, rv9.2.At, ([] : List Stage), 1, rv9.1)).bind fun e130 =>
  some ((⟨e130.2.2⟩ : Response), (⟨e130.1, e130.2.1⟩ : Dice))

-- slices.Grow[[]seismonet/api.Stage,seismonet/api.Stage]
noncomputable def slices_Grow_Lapi_Stage_api_Stage_n_j1 (sv23 : (List Stage)) : Option (List Stage) :=
  some sv23
noncomputable def slices_Grow_Lapi_Stage_api_Stage_n (n1 : Int) : Option (List Stage) :=
  (if (decide (n1 < 0)) = true then
    none
  else
    (some (w64 (n1 - (w64 (((0 : Nat) : Int) - (([] : List Stage).length : Int)))))).bind fun n5 =>
    (if (decide (0 < n5)) = true then
      (subM ([] : List Stage) 0 ((0 : Nat) : Int)).bind fun l28 =>
      (makeM 96 ((⟨0, (⟨0, 0, 0⟩ : (Arr3 Int)), (⟨0, 0, 0⟩ : (Arr3 Int)), ([] : List Int), 0, 0⟩ : Stage) : Stage) n5).bind fun l30 =>
      (subM l30 0 (([] : List Stage).length : Int)).bind fun l36 =>
      slices_Grow_Lapi_Stage_api_Stage_n_j1 l36
    else
      slices_Grow_Lapi_Stage_api_Stage_n_j1 ([] : List Stage)))

-- slices.Concat[[]seismonet/api.Stage,seismonet/api.Stage]
noncomputable def slices_Concat_Lapi_Stage_api_Stage_l1 (slices1 : (List (List Stage))) (sv5 : (Int × Int)) : Option ((Int × Int) ⊕ Int) :=
  (if (decide (sv5.2 < (slices1.length : Int))) = true then
    (ix slices1 sv5.2).bind fun x100 =>
    (some (w64 (sv5.1 + (x100.length : Int)))).bind fun size116 =>
    (if (decide (size116 < 0)) = true then
      none
    else
      some (Sum.inl (size116, (w64 (sv5.2 + 1)))))
  else
    some (Sum.inr sv5.1))
noncomputable def slices_Concat_Lapi_Stage_api_Stage_l2 (slices1 : (List (List Stage))) (sv131 : ((List Stage) × Int)) : Option (((List Stage) × Int) ⊕ (List Stage)) :=
  (if (decide (sv131.2 < (slices1.length : Int))) = true then
    (ix slices1 sv131.2).bind fun x243 =>
    (appM 96 sv131.1 x243).bind fun l259 =>
    some (Sum.inl (l259, (w64 (sv131.2 + 1))))
  else
    some (Sum.inr sv131.1))
noncomputable def slices_Concat_Lapi_Stage_api_Stage (slices1 : (List (List Stage))) : Option (List Stage) :=
  (whileM (slices_Concat_Lapi_Stage_api_Stage_l1 slices1) (0, 0)).bind fun e74 =>
  (slices_Grow_Lapi_Stage_api_Stage_n e74).bind fun rv121 =>
  (whileM (slices_Concat_Lapi_Stage_api_Stage_l2 slices1) (rv121, 0)).bind fun e212 =>
  some e212

-- slices.Clone[[]seismonet/api.Stage,seismonet/api.Stage]
noncomputable def slices_Clone_Lapi_Stage_api_Stage (s1 : (List Stage)) : Option (List Stage) :=
  (appM 96 ([] : List Stage) s1).bind fun l11 =>
  some l11

-- slices.Clone[[]int,int]
noncomputable def slices_Clone_Lint_int (s1 : (List Int)) : Option (List Int) :=
  (appM 8 ([] : List Int) s1).bind fun l11 =>
  some l11

-- seismonet/response.copied
noncomputable def response_copied_l1 (rv6 : (List Stage)) (sv16 : ((List Stage) × Int)) : Option (((List Stage) × Int) ⊕ (List Stage)) :=
  (if (decide (sv16.2 < (rv6.length : Int))) = true then
    (ix sv16.1 sv16.2).bind fun x224 =>
    (slices_Clone_Lint_int x224.Taps).bind fun rv240 =>
    (ix sv16.1 sv16.2).bind fun x252 =>
    (setM sv16.1 sv16.2 (⟨x252.Kind, x252.Num, x252.Den, rv240, x252.Factor, x252.Shift⟩ : Stage)).bind fun l264 =>
    some (Sum.inl (l264, (w64 (sv16.2 + 1))))
  else
    some (Sum.inr sv16.1))
noncomputable def response_copied (l1 : (List Stage)) : Option (List Stage) :=
  (slices_Clone_Lapi_Stage_api_Stage l1).bind fun rv6 =>
  (whileM (response_copied_l1 rv6) (rv6, 0)).bind fun e169 =>
  some e169

-- seismonet/response.Join
noncomputable def response_Join (a1 : Response) (b5 : Response) : Option (Response × Int) :=
  (response_Valid a1).bind fun rv13 =>
  ((if (!rv13) = true then
    some true
  else
    (response_Valid b5).bind fun rv30 =>
    some (!rv30))).bind fun c27 =>
  (if c27 = true then
    some ((⟨([] : List Stage)⟩ : Response), 1)
  else
    (slices_Concat_Lapi_Stage_api_Stage ([a1.Stages, b5.Stages] : List (List Stage))).bind fun rv41 =>
    (response_copied rv41).bind fun rv53 =>
    (response_Valid (⟨rv53⟩ : Response)).bind fun rv66 =>
    (if (!rv66) = true then
      some ((⟨([] : List Stage)⟩ : Response), 8)
    else
      some ((⟨rv53⟩ : Response), 0)))

-- seismonet/seismonetref17.limited
noncomputable def ref17_limited (n1 : (List Int)) : Option ((List Int) × Int) :=
  (if (decide (64 < (n1.length : Int))) = true then
    some (([] : List Int), 8)
  else
    some (n1, 0))

-- seismonet/seismonetref17.Mul
noncomputable def ref17_Mul (a1 : (List Int)) (b5 : (List Int)) : Option ((List Int) × Int) :=
  (ref17_Valid a1).bind fun rv10 =>
  ((if (!rv10) = true then
    some true
  else
    (ref17_Valid b5).bind fun rv27 =>
    some (!rv27))).bind fun c24 =>
  (if c24 = true then
    some (([] : List Int), 1)
  else
    (ref17_mul a1 b5).bind fun rv36 =>
    (ref17_limited rv36).bind fun rv46 =>
    some (rv46.1, rv46.2))

-- seismonet/seismonetref17.Times
noncomputable def ref17_Times (a1 : Fraction) (b8 : Fraction) : Option (Fraction × Int) :=
  (ref17_ValidFraction a1).bind fun rv19 =>
  ((if (!rv19) = true then
    some true
  else
    (ref17_ValidFraction b8).bind fun rv36 =>
    some (!rv36))).bind fun c33 =>
  (if c33 = true then
    some ((⟨([] : List Int), ([] : List Int)⟩ : Fraction), 1)
  else
    (ref17_Mul a1.Num b8.Num).bind fun rv45 =>
    (ref17_Mul a1.Den b8.Den).bind fun rv55 =>
    (if ((rv45.2 != 0) || (rv55.2 != 0)) = true then
      some ((⟨([] : List Int), ([] : List Int)⟩ : Fraction), 8)
    else
      some ((⟨rv45.1, rv55.1⟩ : Fraction), 0)))

-- seismonet/seismonetlaw18.ResponseJoins
noncomputable def law18_ResponseJoins (t1 : (List Int)) (num5 : Int) (den6 : Int) : Option Bool :=
  (made_Light t1).bind fun rv8 =>
  (if (!rv8) = true then
    (law18_sane).bind fun rv24 =>
    some rv24
  else
    (made_Roll t1).bind fun rv31 =>
    (made_Dice_Response rv31).bind fun rv42 =>
    (made_Dice_Response rv42.2).bind fun rv56 =>
    (some (w64 num5)).bind fun n72 =>
    (some (w64 (1 + (w64 den6)))).bind fun m74 =>
    (response_Join rv42.1 rv56.1).bind fun rv76 =>
    (response_Join rv56.1 rv42.1).bind fun rv90 =>
    (if ((rv76.2 != 0) || (rv90.2 != 0)) = true then
      ((if ((rv76.2 == 8) && (rv90.2 == 8)) = true then
        (law18_sane).bind fun rv135 =>
        some rv135
      else
        some false)).bind fun c132 =>
      some c132
    else
      (response_Gain rv42.1 n72 m74).bind fun rv143 =>
      (response_Gain rv56.1 n72 m74).bind fun rv157 =>
      (response_Gain rv76.1 n72 m74).bind fun rv171 =>
      (response_Gain rv90.1 n72 m74).bind fun rv186 =>
      (if ((rv143.2 != 0) || (rv157.2 != 0)) = true then
        ((if ((rv171.2 == 11) && (rv186.2 == 11)) = true then
          (law18_sane).bind fun rv234 =>
          some rv234
        else
          some false)).bind fun c231 =>
        some c231
      else
        (ref17_Times rv143.1 rv157.1).bind fun rv242 =>
        (ref17_Equal rv171.1 rv242.1).bind fun rv256 =>
        (ref17_Equal rv186.1 rv242.1).bind fun rv263 =>
        ((if (((((((rv171.2 == 0) && (rv186.2 == 0)) && (rv242.2 == 0)) && (rv256.2 == 0)) && (rv263.2 == 0)) && rv256.1) && rv263.1) = true then
          (law18_sane).bind fun rv286 =>
          some rv286
        else
          some false)).bind fun c283 =>
        some c283)))

-- seismonet/seismonetlaw18.ResponseSections$1
noncomputable def law18_ResponseSections_fn1 (x1 : Stage) (p5 : Int) (q6 : Int) : Option (Fraction × Int) :=
  (response_Gain (⟨([x1] : List Stage)⟩ : Response) p5 q6).bind fun rv12 =>
  some (rv12.1, rv12.2)

-- seismonet/seismonetlaw18.ResponseSections
noncomputable def law18_ResponseSections (a0_1 : Int) (a1_2 : Int) (a2_3 : Int) (b0_4 : Int) (b1_5 : Int) (b2_6 : Int) (num7 : Int) (den8 : Int) (by9 : Int) : Option Bool :=
  (some (w64 num7)).bind fun n11 =>
  (some (w64 (1 + (w64 den8)))).bind fun m13 =>
  (some (w64 (1 + (Int.tmod (w64 by9) 50)))).bind fun k15 =>
  (if ((a0_1 == 0) || (b0_4 == 0)) = true then
    (response_ValidStage (⟨1, (⟨(w64 a0_1), (w64 a1_2), (w64 a2_3)⟩ : (Arr3 Int)), (⟨0, 0, 0⟩ : (Arr3 Int)), ([] : List Int), 0, 0⟩ : Stage)).bind fun rv45 =>
    ((if (!rv45) = true then
      (law18_sane).bind fun rv62 =>
      some rv62
    else
      some false)).bind fun c59 =>
    some c59
  else
    (law18_ResponseSections_fn1 (⟨1, (⟨(w64 a0_1), (w64 a1_2), (w64 a2_3)⟩ : (Arr3 Int)), (⟨(w64 b0_4), (w64 b1_5), (w64 b2_6)⟩ : (Arr3 Int)), ([] : List Int), 0, 0⟩ : Stage) n11 m13).bind fun rv71 =>
    (law18_ResponseSections_fn1 (⟨1, (⟨(w64 a0_1), (w64 a1_2), (w64 a2_3)⟩ : (Arr3 Int)), (⟨(w64 b0_4), (w64 b1_5), (w64 b2_6)⟩ : (Arr3 Int)), ([] : List Int), 0, 0⟩ : Stage) (w64 (n11 * k15)) (w64 (m13 * k15))).bind fun rv85 =>
    (if (rv71.2 != 0) = true then
      ((if ((rv71.2 == 11) && (rv85.2 == rv71.2)) = true then
        (law18_sane).bind fun rv131 =>
        some rv131
      else
        some false)).bind fun c128 =>
      some c128
    else
      (ref17_Equal rv71.1 rv85.1).bind fun rv139 =>
      (law18_ResponseSections_fn1 (⟨1, (⟨(w64 a0_1), (w64 a1_2), (w64 a2_3)⟩ : (Arr3 Int)), (⟨(w64 a0_1), (w64 a1_2), (w64 a2_3)⟩ : (Arr3 Int)), ([] : List Int), 0, 0⟩ : Stage) n11 m13).bind fun rv146 =>
      (law18_ResponseSections_fn1 (⟨1, (⟨(w64 b0_4), (w64 b1_5), (w64 b2_6)⟩ : (Arr3 Int)), (⟨(w64 a0_1), (w64 a1_2), (w64 a2_3)⟩ : (Arr3 Int)), ([] : List Int), 0, 0⟩ : Stage) n11 m13).bind fun rv160 =>
      (if ((rv71.1.Num.length : Int) == 0) = true then
        ((if (((((rv85.2 == 0) && (rv139.2 == 0)) && rv139.1) && (rv146.2 == 11)) && (rv160.2 == 11)) = true then
          (law18_sane).bind fun rv215 =>
          some rv215
        else
          some false)).bind fun c212 =>
        some c212
      else
        (ref17_Equal rv146.1 (⟨([1] : List Int), ([1] : List Int)⟩ : Fraction)).bind fun rv230 =>
        (ref17_Times rv71.1 rv160.1).bind fun rv237 =>
        (ref17_Equal rv237.1 (⟨([1] : List Int), ([1] : List Int)⟩ : Fraction)).bind fun rv255 =>
        ((if ((((((((((rv85.2 == 0) && (rv139.2 == 0)) && (rv146.2 == 0)) && (rv160.2 == 0)) && (rv230.2 == 0)) && (rv237.2 == 0)) && (rv255.2 == 0)) && rv139.1) && rv230.1) && rv255.1) = true then
          (law18_sane).bind fun rv281 =>
          some rv281
        else
          some false)).bind fun c278 =>
        some c278)))

-- seismonet/seismonetref02.gcd
noncomputable def ref02_gcd_l1 (sv3 : (Int × Int)) : Option ((Int × Int) ⊕ Int) :=
  (if (sv3.2 != 0) = true then
    (remM sv3.1 sv3.2).bind fun rem29 =>
    some (Sum.inl (sv3.2, rem29))
  else
    some (Sum.inr sv3.1))
noncomputable def ref02_gcd (a1 : Int) (b2 : Int) : Option Int :=
  (whileM (ref02_gcd_l1) (a1, b2)).bind fun e21 =>
  some e21

-- seismonet/seismonetref02.New
noncomputable def ref02_New (num1 : Int) (den2 : Int) : Option (Rate × Int) :=
  (ref01_In num1 1 4096).bind fun rv5 =>
  ((if (!rv5) = true then
    some true
  else
    (ref01_In den2 1 4096).bind fun rv22 =>
    some (!rv22))).bind fun c19 =>
  (if c19 = true then
    some ((⟨0, 0⟩ : Rate), 2)
  else
    (ref02_gcd num1 den2).bind fun rv31 =>
    (quoM .i64 num1 rv31).bind fun quo38 =>
    (quoM .i64 den2 rv31).bind fun quo40 =>
    some ((⟨quo38, quo40⟩ : Rate), 0))

-- (*seismonet/seismonetmade.Dice).Rate
noncomputable def made_Dice_Rate (d1 : Dice) : Option (Rate × Dice) :=
  (made_Dice_Pick d1 ([1, 3, 20, 100, 40, 4096, 7] : List Int)).bind fun rv10 =>
  (made_Dice_Pick rv10.2 ([1, 1, 1, 3, 7, 4096] : List Int)).bind fun rv23 =>
  (ref02_New rv10.1 rv23.1).bind fun rv34 =>
  some (rv34.1, rv23.2)

-- seismonet/response.Factor
noncomputable def response_Factor (r1 : Response) : Option (Int × Int) :=
  (response_Valid r1).bind fun rv7 =>
  (if (!rv7) = true then
    some (0, 1)
  else
    (response_factor r1.Stages).bind fun rv16 =>
    some (rv16, 0))

-- seismonet/response.Input
noncomputable def response_Input (r1 : Response) (out5 : Rate) : Option (Rate × Int) :=
  (response_Valid r1).bind fun rv10 =>
  ((if (!rv10) = true then
    some true
  else
    (rate_Valid out5).bind fun rv27 =>
    some (!rv27))).bind fun c24 =>
  (if c24 = true then
    some ((⟨0, 0⟩ : Rate), 1)
  else
    (response_factor r1.Stages).bind fun rv36 =>
    (response_faster out5 rv36).bind fun rv38 =>
    (if (!rv38.2) = true then
      some ((⟨0, 0⟩ : Rate), 8)
    else
      some (rv38.1, 0)))

-- seismonet/seismonetlaw18.ResponseRates
noncomputable def law18_ResponseRates (t1 : (List Int)) : Option Bool :=
  (made_Light t1).bind fun rv6 =>
  (if (!rv6) = true then
    (law18_sane).bind fun rv22 =>
    some rv22
  else
    (made_Roll t1).bind fun rv29 =>
    (made_Dice_Response rv29).bind fun rv40 =>
    (made_Dice_Response rv40.2).bind fun rv54 =>
    (made_Dice_Rate rv54.2).bind fun rv68 =>
    (response_Join rv40.1 rv54.1).bind fun rv81 =>
    (if (rv81.2 != 0) = true then
      ((if (rv81.2 == 8) = true then
        (law18_sane).bind fun rv124 =>
        some rv124
      else
        some false)).bind fun c121 =>
      some c121
    else
      (response_Factor rv40.1).bind fun rv131 =>
      (response_Factor rv54.1).bind fun rv138 =>
      (response_Factor rv81.1).bind fun rv145 =>
      (response_Input rv54.1 rv68.1).bind fun rv152 =>
      (response_Input rv81.1 rv68.1).bind fun rv160 =>
      (if ((((rv131.2 != 0) || (rv138.2 != 0)) || (rv145.2 != 0)) || (rv145.1 != (w64 (rv131.1 * rv138.1)))) = true then
        some false
      else
        (if (rv152.2 != 0) = true then
          ((if (rv152.2 == 8) = true then
            (law18_sane).bind fun rv202 =>
            some rv202
          else
            some false)).bind fun c199 =>
          some c199
        else
          (response_Input rv40.1 rv152.1).bind fun rv209 =>
          (if ((rv160.2 != rv209.2) || (!((rv209.1.Num == rv160.1.Num) && ((rv209.1.Den == rv160.1.Den) && true)))) = true then
            some false
          else
            (response_Delay rv40.1 rv152.1).bind fun rv220 =>
            (response_Delay rv54.1 rv68.1).bind fun rv228 =>
            (response_Delay rv81.1 rv68.1).bind fun rv236 =>
            (if (((rv220.2 != 0) || (rv228.2 != 0)) || (rv236.2 != 0)) = true then
              ((if (((rv220.2 == 11) || (rv228.2 == 11)) == (rv236.2 == 11)) = true then
                (law18_sane).bind fun rv278 =>
                some rv278
              else
                some false)).bind fun c275 =>
              some c275
            else
              ((if ((w64 ((w64 (rv236.1.Num * rv220.1.Den)) * rv228.1.Den)) == (w64 (rv236.1.Den * (w64 ((w64 (rv220.1.Num * rv228.1.Den)) + (w64 (rv228.1.Num * rv220.1.Den))))))) = true then
                (law18_sane).bind fun rv296 =>
                some rv296
              else
                some false)).bind fun c293 =>
              some c293))))))

end Go.Proofs.Ytoendkojgjobbaa.Sh

/- Each Go function as a plain program over lists and numbers (none: a panic, or no end). Printed by a program of ours out of the translation. -/
import Derived.Test.YtdcafiefjakfeaaGreatShData
import Derived.Test.YtdcafiefjakfeaaGreatLb1
namespace Go.Proofs.YtdcafiefjakfeaaGreat.Sh
open Go
set_option linter.unusedVariables false
-- seismonet/seismonetmade.Light
noncomputable def made_Light (l1 : (List Int)) : Option Bool :=
  some (decide ((l1.length : Int) ≤ 500))
-- slices.IndexFunc[[]seismonet/api.Record,seismonet/api.Record]
noncomputable def slices_IndexFunc_Lapi_Record_api_Record_l2 (s1 : (List Record)) (f5 : Record → Option Bool) (sv90 : Int) : Option (Int ⊕ Int) :=
  (if (decide (sv90 < (s1.length : Int))) = true then
    (ix s1 sv90).bind fun x200 =>
    (f5 x200).bind fun rv216 =>
    (if rv216 = true then
      some (Sum.inr sv90)
    else
      some (Sum.inl (w64 (sv90 + 1))))
  else
    Option.map Sum.inr (some (-1)))
noncomputable def slices_IndexFunc_Lapi_Record_api_Record (s1 : (List Record)) (f5 : Record → Option Bool) : Option Int :=
  whileM (slices_IndexFunc_Lapi_Record_api_Record_l2 s1 f5) (0)
-- slices.ContainsFunc[[]seismonet/api.Record,seismonet/api.Record]
noncomputable def slices_ContainsFunc_Lapi_Record_api_Record (s1 : (List Record)) (f5 : Record → Option Bool) : Option Bool :=
  (slices_IndexFunc_Lapi_Record_api_Record s1 f5).bind fun rv11 =>
  some (decide (0 ≤ rv11))
-- seismonet/source.plain
noncomputable def source_plain (c1 : Int) : Option Bool :=
  some (((decide (65 ≤ c1)) && (decide (c1 ≤ 90))) || ((decide (48 ≤ c1)) && (decide (c1 ≤ 57))))
-- seismonet/source.code
noncomputable def source_code_l2 (s1 : ByteArray) (low2 : Int) (high3 : Int) (sv42 : Int) : Option (Int ⊕ Bool) :=
  (if (decide (sv42 < (s1.size : Int))) = true then
    (byteAt s1 sv42).bind fun c95 =>
    (source_plain c95).bind fun rv97 =>
    (if (!rv97) = true then
      some (Sum.inr false)
    else
      some (Sum.inl (w64 (sv42 + 1))))
  else
    Option.map Sum.inr (some ((decide (low2 ≤ (s1.size : Int))) && (decide ((s1.size : Int) ≤ high3)))))
noncomputable def source_code (s1 : ByteArray) (low2 : Int) (high3 : Int) : Option Bool :=
  whileM (source_code_l2 s1 low2 high3) (0)
-- seismonet/source.Valid
noncomputable def source_Valid (s1 : SourceID) : Option Bool :=
  (source_code s1.Network 1 2).bind fun rv4 =>
  ((if rv4 = true then
    (source_code s1.Station 1 5).bind fun rv21 =>
    some rv21
  else
    some false)).bind fun c18 =>
  ((if c18 = true then
    (source_code s1.Location 0 2).bind fun rv38 =>
    some rv38
  else
    some false)).bind fun c35 =>
  ((if (c35 && ((s1.Location.size : Int) != 1)) = true then
    (source_code s1.Channel 3 3).bind fun rv56 =>
    some rv56
  else
    some false)).bind fun c53 =>
  some c53
-- seismonet/record.in
noncomputable def record_in (n1 : Int) (low2 : Int) (high3 : Int) : Option Bool :=
  some ((decide (low2 ≤ n1)) && (decide (n1 ≤ high3)))
-- seismonet/rate.in
noncomputable def rate_in (n1 : Int) (low2 : Int) (high3 : Int) : Option Bool :=
  some ((decide (low2 ≤ n1)) && (decide (n1 ≤ high3)))
-- seismonet/rate.gcd
noncomputable def rate_gcd_l1 (sv3 : (Int × Int)) : Option ((Int × Int) ⊕ Int) :=
  (if (sv3.2 != 0) = true then
    (remM sv3.1 sv3.2).bind fun rem29 =>
    some (Sum.inl (sv3.2, rem29))
  else
    some (Sum.inr sv3.1))
noncomputable def rate_gcd (a1 : Int) (b2 : Int) : Option Int :=
  (whileM (rate_gcd_l1) (a1, b2)).bind fun e21 =>
  some e21
-- seismonet/rate.Valid
noncomputable def rate_Valid (r1 : Rate) : Option Bool :=
  (rate_in r1.Num 1 4096).bind fun rv4 =>
  ((if rv4 = true then
    (rate_in r1.Den 1 4096).bind fun rv21 =>
    some rv21
  else
    some false)).bind fun c18 =>
  ((if c18 = true then
    (rate_gcd r1.Num r1.Den).bind fun rv38 =>
    some (rv38 == 1)
  else
    some false)).bind fun c35 =>
  some c35
-- seismonet/rate.micros
noncomputable def rate_micros (r1 : Rate) : Option Int :=
  (some (w64 (r1.Den * 1000000))).bind fun x4 =>
  some x4
-- seismonet/rate.after
noncomputable def rate_after (r1 : Rate) (k2 : Int) : Option Int :=
  (rate_micros r1).bind fun rv5 =>
  (quoM .i64 (w64 (k2 * rv5)) r1.Num).bind fun quo7 =>
  some quo7
-- seismonet/rate.Time
noncomputable def rate_Time (start1 : Int) (r2 : Rate) (k3 : Int) : Option (Int × Int) :=
  (rate_Valid r2).bind fun rv6 =>
  (if (!rv6) = true then
    some (0, 1)
  else
    (rate_in start1 0 9007199254740992).bind fun rv15 =>
    ((if (!rv15) = true then
      some true
    else
      (rate_in k3 0 16777216).bind fun rv32 =>
      some (!rv32))).bind fun c29 =>
    (if c29 = true then
      some (0, 2)
    else
      (rate_after r2 k3).bind fun rv41 =>
      (some (w64 (start1 + rv41))).bind fun x48 =>
      some (x48, 0)))
-- slices.IndexFunc[[]int,int]
noncomputable def slices_IndexFunc_Lint_int_l2 (s1 : (List Int)) (f5 : Int → Option Bool) (sv78 : Int) : Option (Int ⊕ Int) :=
  (if (decide (sv78 < (s1.length : Int))) = true then
    (ix s1 sv78).bind fun x172 =>
    (f5 x172).bind fun rv184 =>
    (if rv184 = true then
      some (Sum.inr sv78)
    else
      some (Sum.inl (w64 (sv78 + 1))))
  else
    Option.map Sum.inr (some (-1)))
noncomputable def slices_IndexFunc_Lint_int (s1 : (List Int)) (f5 : Int → Option Bool) : Option Int :=
  whileM (slices_IndexFunc_Lint_int_l2 s1 f5) (0)
-- slices.ContainsFunc[[]int,int]
noncomputable def slices_ContainsFunc_Lint_int (s1 : (List Int)) (f5 : Int → Option Bool) : Option Bool :=
  (slices_IndexFunc_Lint_int s1 f5).bind fun rv11 =>
  some (decide (0 ≤ rv11))
-- seismonet/record.Valid$1
noncomputable def record_Valid_fn1 (x1 : Int) : Option Bool :=
  (record_in x1 (-1073741823) 1073741823).bind fun rv3 =>
  some (!rv3)
-- seismonet/record.Valid
noncomputable def record_Valid (r1 : Record) : Option Bool :=
  (some (r1.Samples.length : Int)).bind fun n7 =>
  (source_Valid r1.Source).bind fun rv9 =>
  ((if (!rv9) = true then
    some true
  else
    (record_in n7 1 65536).bind fun rv26 =>
    some (!rv26))).bind fun c23 =>
  ((if c23 = true then
    some true
  else
    (record_in r1.First 0 (w64 (16777216 - n7))).bind fun rv43 =>
    some (!rv43))).bind fun c40 =>
  ((if c40 = true then
    some true
  else
    (record_in r1.Error 0 1099511627776).bind fun rv60 =>
    some (!rv60))).bind fun c57 =>
  ((if c57 = true then
    some true
  else
    (record_in r1.Run 0 65535).bind fun rv77 =>
    some (!rv77))).bind fun c74 =>
  ((if c74 = true then
    some true
  else
    (record_in r1.Seq 0 1073741824).bind fun rv94 =>
    some (!rv94))).bind fun c91 =>
  (if c91 = true then
    some false
  else
    (rate_Time r1.Start r1.Rate (w64 (r1.First + n7))).bind fun rv103 =>
    ((if ((rv103.2 == 0) && (decide (rv103.1 ≤ 9007199254740992))) = true then
      (slices_ContainsFunc_Lint_int r1.Samples record_Valid_fn1).bind fun rv121 =>
      some (!rv121)
    else
      some false)).bind fun c118 =>
    some c118)
-- seismonet/compose.alike$1
noncomputable def compose_alike_fn1 (r1 : Record) (x5 : (List Record)) : Option Bool :=
  (record_Valid r1).bind fun rv13 =>
  (if (!rv13) = true then
    some true
  else
    (ix x5 0).bind fun x16 =>
    some (!((r1.Source.Network == x16.Source.Network) && ((r1.Source.Station == x16.Source.Station) && ((r1.Source.Location == x16.Source.Location) && ((r1.Source.Channel == x16.Source.Channel) && true)))))).bind fun c31 =>
  some c31
-- seismonet/compose.alike
noncomputable def compose_alike (l1 : (List Record)) : Option Bool :=
  (slices_ContainsFunc_Lapi_Record_api_Record l1 (fun y0 => compose_alike_fn1 y0 l1)).bind fun rv7 =>
  some (!rv7)
-- seismonet/compose.Valid
noncomputable def compose_Valid (l1 : (List Record)) : Option Bool :=
  ((if (decide ((l1.length : Int) ≤ 256)) = true then
    (compose_alike l1).bind fun rv16 =>
    some rv16
  else
    some false)).bind fun c13 =>
  some c13
-- seismonet/continuity.window
noncomputable def continuity_window (from1 : Int) (to2 : Int) : Option Bool :=
  some (((decide (0 ≤ from1)) && (decide (from1 ≤ to2))) && (decide (to2 ≤ 9007199254740992)))
-- seismonet/continuity.check
noncomputable def continuity_check (l1 : (List Record)) (from5 : Int) (to6 : Int) : Option Int :=
  (compose_Valid l1).bind fun rv8 =>
  (if (!rv8) = true then
    some 1
  else
    (continuity_window from5 to6).bind fun rv17 =>
    (if (!rv17) = true then
      some 2
    else
      some 0))
-- seismonet/compose.at
noncomputable def compose_at (r1 : Record) (i5 : Int) : Option Int :=
  (rate_Time r1.Start r1.Rate (w64 (r1.First + i5))).bind fun rv8 =>
  some rv8.1
-- seismonet/compose.extent
noncomputable def compose_extent (r1 : Record) : Option Span :=
  (compose_at r1 0).bind fun rv8 =>
  (compose_at r1 (r1.Samples.length : Int)).bind fun rv10 =>
  some (⟨rv8, rv10⟩ : Span)
-- slices.Clone[[]seismonet/api.Span,seismonet/api.Span]
noncomputable def slices_Clone_Lapi_Span_api_Span (s1 : (List Span)) : Option (List Span) :=
  (appM 16 ([] : List Span) s1).bind fun l11 =>
  some l11
-- slices.IndexFunc[[]seismonet/api.Span,seismonet/api.Span]
noncomputable def slices_IndexFunc_Lapi_Span_api_Span_l2 (s1 : (List Span)) (f5 : Span → Option Bool) (sv78 : Int) : Option (Int ⊕ Int) :=
  (if (decide (sv78 < (s1.length : Int))) = true then
    (ix s1 sv78).bind fun x172 =>
    (f5 x172).bind fun rv184 =>
    (if rv184 = true then
      some (Sum.inr sv78)
    else
      some (Sum.inl (w64 (sv78 + 1))))
  else
    Option.map Sum.inr (some (-1)))
noncomputable def slices_IndexFunc_Lapi_Span_api_Span (s1 : (List Span)) (f5 : Span → Option Bool) : Option Int :=
  whileM (slices_IndexFunc_Lapi_Span_api_Span_l2 s1 f5) (0)
-- slices.DeleteFunc[[]seismonet/api.Span,seismonet/api.Span]
noncomputable def slices_DeleteFunc_Lapi_Span_api_Span_j1 (sv22 : ((List Span) × Int × Int)) (sv247 : (List Span)) (i248 : Int) : Option (((List Span) × Int × Int) ⊕ ((List Span) × Int)) :=
  (some (w64 (sv22.2.2 + 1))).bind fun j250 =>
  some (Sum.inl (sv247, i248, j250))
noncomputable def slices_DeleteFunc_Lapi_Span_api_Span_l1 (del6 : Span → Option Bool) (sv22 : ((List Span) × Int × Int)) : Option (((List Span) × Int × Int) ⊕ ((List Span) × Int)) :=
  (if (decide (sv22.2.2 < (sv22.1.length : Int))) = true then
    (ix sv22.1 sv22.2.2).bind fun x210 =>
    (del6 x210).bind fun rv223 =>
    (if (!rv223) = true then
      (ix sv22.1 sv22.2.1).bind fun x254 =>
      (setM sv22.1 sv22.2.1 x210).bind fun l262 =>
      (some (w64 (sv22.2.1 + 1))).bind fun i267 =>
      slices_DeleteFunc_Lapi_Span_api_Span_j1 sv22 l262 i267
    else
      slices_DeleteFunc_Lapi_Span_api_Span_j1 sv22 sv22.1 sv22.2.1)
  else
    some (Sum.inr (sv22.1, sv22.2.1)))
noncomputable def slices_DeleteFunc_Lapi_Span_api_Span (s1 : (List Span)) (del6 : Span → Option Bool) : Option (List Span) :=
  (slices_IndexFunc_Lapi_Span_api_Span s1 del6).bind fun rv12 =>
  (if (rv12 == (-1)) = true then
    some s1
  else
    (some (w64 (rv12 + 1))).bind fun j21 =>
    (whileM (slices_DeleteFunc_Lapi_Span_api_Span_l1 del6) (s1, rv12, j21)).bind fun e162 =>
    (subM e162.1 e162.2 (e162.1.length : Int)).bind fun l273 =>
    (some (copyM e162.1 e162.2 (e162.1.length : Int) (List.replicate l273.length ((⟨0, 0⟩ : Span) : Span)))).bind fun l274 =>
    (subM l274 0 e162.2).bind fun l283 =>
    some l283)
-- seismonet/span.some
noncomputable def span_some (s1 : Span) : Option Bool :=
  some (decide (s1.From < s1.To))
-- seismonet/span.Normal$1
noncomputable def span_Normal_fn1 (s1 : Span) : Option Bool :=
  (span_some s1).bind fun rv4 =>
  some (!rv4)
-- slices.SortFunc[[]seismonet/api.Span,seismonet/api.Span]
noncomputable def slices_SortFunc_Lapi_Span_api_Span (x1 : (List Span)) (cmp6 : Span → Span → Option Int) : Option (List Span) :=
  sortP x1 cmp6
-- cmp.isNaN[int]
noncomputable def cmp_isNaN_int (x1 : Int) : Option Bool :=
  some (x1 != x1)
-- cmp.Compare[int]
noncomputable def cmp_Compare_int (x1 : Int) (y2 : Int) : Option Int :=
  (cmp_isNaN_int x1).bind fun rv4 =>
  (cmp_isNaN_int y2).bind fun rv11 =>
  (if rv4 = true then
    (if rv11 = true then
      some 0
    else
      some (-1))
  else
    (if rv11 = true then
      some 1
    else
      (if (decide (x1 < y2)) = true then
        some (-1)
      else
        (if (decide (y2 < x1)) = true then
          some 1
        else
          some 0))))
-- seismonet/span.Normal$2
noncomputable def span_Normal_fn2 (a1 : Span) (b2 : Span) : Option Int :=
  (cmp_Compare_int a1.From b2.From).bind fun rv6 =>
  some rv6
-- seismonet/span.Normal
noncomputable def span_Normal_j1 (sv39 : ((List Span) × Int)) (out425 : (List Span)) : Option (((List Span) × Int) ⊕ (List Span)) :=
  some (Sum.inl (out425, (w64 (sv39.2 + 1))))
noncomputable def span_Normal_l1 (rv28 : (List Span)) (sv39 : ((List Span) × Int)) : Option (((List Span) × Int) ⊕ (List Span)) :=
  (if (decide (sv39.2 < (rv28.length : Int))) = true then
    (ix rv28 sv39.2).bind fun x341 =>
    (some (sv39.1.length : Int)).bind fun n354 =>
    (if (decide (0 < n354)) = true then
      (ix sv39.1 (w64 (n354 - 1))).bind fun x357 =>
      some (decide (x341.From ≤ x357.To))
    else
      some false).bind fun c368 =>
    (if c368 = true then
      (ix sv39.1 (w64 (n354 - 1))).bind fun x429 =>
      (ix sv39.1 (w64 (n354 - 1))).bind fun x442 =>
      (setM sv39.1 (w64 (n354 - 1)) (⟨x442.From, (max x429.To x341.To)⟩ : Span)).bind fun l450 =>
      span_Normal_j1 sv39 l450
    else
      (appM 16 sv39.1 ([x341] : List Span)).bind fun l457 =>
      span_Normal_j1 sv39 l457)
  else
    some (Sum.inr sv39.1))
noncomputable def span_Normal (l1 : (List Span)) : Option (List Span) :=
  (slices_Clone_Lapi_Span_api_Span l1).bind fun rv6 =>
  (slices_DeleteFunc_Lapi_Span_api_Span rv6 span_Normal_fn1).bind fun rv17 =>
  (slices_SortFunc_Lapi_Span_api_Span rv17 span_Normal_fn2).bind fun rv28 =>
  (whileM (span_Normal_l1 rv28) (([] : List Span), 0)).bind fun e261 =>
  some e261
-- seismonet/compose.Covered
noncomputable def compose_Covered_l1 (l1 : (List Record)) (sv14 : ((List Span) × Int)) : Option (((List Span) × Int) ⊕ (List Span)) :=
  (if (decide (sv14.2 < (l1.length : Int))) = true then
    (ix l1 sv14.2).bind fun x166 =>
    (compose_extent x166).bind fun rv183 =>
    (appM 16 sv14.1 ([rv183] : List Span)).bind fun l192 =>
    some (Sum.inl (l192, (w64 (sv14.2 + 1))))
  else
    some (Sum.inr sv14.1))
noncomputable def compose_Covered (l1 : (List Record)) : Option ((List Span) × Int) :=
  (compose_Valid l1).bind fun rv6 =>
  (if (!rv6) = true then
    some (([] : List Span), 1)
  else
    (whileM (compose_Covered_l1 l1) (([] : List Span), 0)).bind fun e125 =>
    (span_Normal e125).bind fun rv198 =>
    some (rv198, 0))
-- seismonet/span.Minus
noncomputable def span_Minus_j1 (sv699 : ((List Span) × Int × Int)) (out867 : (List Span)) (atv868 : Int) : Option (((List Span) × Int × Int) ⊕ ((List Span) × Int)) :=
  some (Sum.inl (out867, atv868, (w64 (sv699.2.2 + 1))))
noncomputable def span_Minus_j2 (sv699 : ((List Span) × Int × Int)) (x871 : Span) (out898 : (List Span)) : Option (((List Span) × Int × Int) ⊕ ((List Span) × Int)) :=
  (some (max sv699.2.1 x871.To)).bind fun atv900 =>
  span_Minus_j1 sv699 out898 atv900
noncomputable def span_Minus_l6 (rv10 : (List Span)) (x687 : Span) (sv699 : ((List Span) × Int × Int)) : Option (((List Span) × Int × Int) ⊕ ((List Span) × Int)) :=
  (if (decide (sv699.2.2 < (rv10.length : Int))) = true then
    (ix rv10 sv699.2.2).bind fun x871 =>
    (if ((decide (x871.To ≤ sv699.2.1)) || (decide (x687.To ≤ x871.From))) = true then
      span_Minus_j1 sv699 sv699.1 sv699.2.1
    else
      (if (decide (sv699.2.1 < x871.From)) = true then
        (appM 16 sv699.1 ([(⟨sv699.2.1, x871.From⟩ : Span)] : List Span)).bind fun l905 =>
        span_Minus_j2 sv699 x871 l905
      else
        span_Minus_j2 sv699 x871 sv699.1))
  else
    some (Sum.inr (sv699.1, sv699.2.1)))
noncomputable def span_Minus_j4 (sv31 : ((List Span) × Int)) (out922 : (List Span)) : Option (((List Span) × Int) ⊕ (List Span)) :=
  some (Sum.inl (out922, (w64 (sv31.2 + 1))))
noncomputable def span_Minus_l3 (rv10 : (List Span)) (rv21 : (List Span)) (sv31 : ((List Span) × Int)) : Option (((List Span) × Int) ⊕ (List Span)) :=
  (if (decide (sv31.2 < (rv21.length : Int))) = true then
    (ix rv21 sv31.2).bind fun x687 =>
    (whileM (span_Minus_l6 rv10 x687) (sv31.1, x687.From, 0)).bind fun e825 =>
    (if (decide (e825.2 < x687.To)) = true then
      (appM 16 e825.1 ([(⟨e825.2, x687.To⟩ : Span)] : List Span)).bind fun l927 =>
      span_Minus_j4 sv31 l927
    else
      span_Minus_j4 sv31 e825.1)
  else
    some (Sum.inr sv31.1))
noncomputable def span_Minus (a1 : (List Span)) (b5 : (List Span)) : Option (List Span) :=
  (span_Normal b5).bind fun rv10 =>
  (span_Normal a1).bind fun rv21 =>
  (whileM (span_Minus_l3 rv10 rv21) (([] : List Span), 0)).bind fun e520 =>
  some e520
-- seismonet/continuity.Gaps
noncomputable def continuity_Gaps (l1 : (List Record)) (from5 : Int) (to6 : Int) : Option ((List Span) × Int) :=
  (continuity_check l1 from5 to6).bind fun rv8 =>
  (if (rv8 != 0) = true then
    some (([] : List Span), rv8)
  else
    (compose_Covered l1).bind fun rv17 =>
    (span_Minus ([(⟨from5, to6⟩ : Span)] : List Span) rv17.1).bind fun rv30 =>
    some (rv30, 0))
-- slices.Clone[[]seismonet/api.Record,seismonet/api.Record]
noncomputable def slices_Clone_Lapi_Record_api_Record (s1 : (List Record)) : Option (List Record) :=
  (appM 144 ([] : List Record) s1).bind fun l11 =>
  some l11
-- slices.Clone[[]int,int]
noncomputable def slices_Clone_Lint_int (s1 : (List Int)) : Option (List Int) :=
  (appM 8 ([] : List Int) s1).bind fun l11 =>
  some l11
-- slices.SortFunc[[]seismonet/api.Record,seismonet/api.Record]
noncomputable def slices_SortFunc_Lapi_Record_api_Record (x1 : (List Record)) (cmp6 : Record → Record → Option Int) : Option (List Record) :=
  sortM x1 cmp6
-- cmp.isNaN[string]
noncomputable def cmp_isNaN_string (x1 : ByteArray) : Option Bool :=
  some (!(x1.toList == x1.toList))
-- cmp.Compare[string]
noncomputable def cmp_Compare_string (x1 : ByteArray) (y2 : ByteArray) : Option Int :=
  (cmp_isNaN_string x1).bind fun rv4 =>
  (cmp_isNaN_string y2).bind fun rv11 =>
  (if rv4 = true then
    (if rv11 = true then
      some 0
    else
      some (-1))
  else
    (if rv11 = true then
      some 1
    else
      (if (Op.bytesLess x1.toList y2.toList) = true then
        some (-1)
      else
        (if (!((Op.bytesLess x1.toList y2.toList) || (x1.toList == y2.toList))) = true then
          some 1
        else
          some 0))))
-- cmp.Or[int]
noncomputable def cmp_Or_int_l2 (vals1 : (List Int)) (sv55 : Int) : Option (Int ⊕ Int) :=
  (if (decide (sv55 < (vals1.length : Int))) = true then
    (ix vals1 sv55).bind fun x125 =>
    (if (x125 != 0) = true then
      some (Sum.inr x125)
    else
      some (Sum.inl (w64 (sv55 + 1))))
  else
    Option.map Sum.inr (some 0))
noncomputable def cmp_Or_int (vals1 : (List Int)) : Option Int :=
  whileM (cmp_Or_int_l2 vals1) (0)
-- seismonet/source.Compare
noncomputable def source_Compare (a1 : SourceID) (b2 : SourceID) : Option Int :=
  (cmp_Compare_string a1.Network b2.Network).bind fun rv6 =>
  (cmp_Compare_string a1.Station b2.Station).bind fun rv8 =>
  (cmp_Compare_string a1.Location b2.Location).bind fun rv10 =>
  (cmp_Compare_string a1.Channel b2.Channel).bind fun rv12 =>
  (cmp_Or_int ([rv6, rv8, rv10, rv12] : List Int)).bind fun rv16 =>
  some rv16
-- seismonet/record.time
noncomputable def record_time (r1 : Record) (i5 : Int) : Option Int :=
  (rate_Time r1.Start r1.Rate (w64 (r1.First + i5))).bind fun rv8 =>
  some rv8.1
-- seismonet/record.begin
noncomputable def record_begin (r1 : Record) : Option Int :=
  (record_Valid r1).bind fun rv7 =>
  (if (!rv7) = true then
    some 0
  else
    (record_time r1 0).bind fun rv16 =>
    some rv16)
-- slices.Compare[[]int,int]
noncomputable def slices_Compare_Lint_int_l2 (s1_1 : (List Int)) (s2_5 : (List Int)) (sv122 : Int) : Option (Int ⊕ Int) :=
  (if (decide (sv122 < (s1_1.length : Int))) = true then
    (ix s1_1 sv122).bind fun x276 =>
    (if (decide ((s2_5.length : Int) ≤ sv122)) = true then
      some (Sum.inr 1)
    else
      (ix s2_5 sv122).bind fun x292 =>
      (cmp_Compare_int x276 x292).bind fun rv304 =>
      (if (rv304 != 0) = true then
        some (Sum.inr rv304)
      else
        some (Sum.inl (w64 (sv122 + 1)))))
  else
    Option.map Sum.inr ((if (decide ((s1_1.length : Int) < (s2_5.length : Int))) = true then
      some (-1)
    else
      some 0)))
noncomputable def slices_Compare_Lint_int (s1_1 : (List Int)) (s2_5 : (List Int)) : Option Int :=
  whileM (slices_Compare_Lint_int_l2 s1_1 s2_5) (0)
-- seismonet/record.Compare
noncomputable def record_Compare (a1 : Record) (b5 : Record) : Option Int :=
  (source_Compare a1.Source b5.Source).bind fun rv12 =>
  (record_begin a1).bind fun rv14 =>
  (record_begin b5).bind fun rv16 =>
  (cmp_Compare_int rv14 rv16).bind fun rv18 =>
  (cmp_Compare_int a1.Start b5.Start).bind fun rv20 =>
  (cmp_Compare_int a1.First b5.First).bind fun rv22 =>
  (cmp_Compare_int a1.Rate.Num b5.Rate.Num).bind fun rv24 =>
  (cmp_Compare_int a1.Rate.Den b5.Rate.Den).bind fun rv26 =>
  (cmp_Compare_int a1.Error b5.Error).bind fun rv28 =>
  (cmp_Compare_int a1.Run b5.Run).bind fun rv30 =>
  (cmp_Compare_int a1.Seq b5.Seq).bind fun rv32 =>
  (cmp_Compare_int (a1.Samples.length : Int) (b5.Samples.length : Int)).bind fun rv34 =>
  (slices_Compare_Lint_int a1.Samples b5.Samples).bind fun rv36 =>
  (cmp_Or_int ([rv12, rv18, rv20, rv22, rv24, rv26, rv28, rv30, rv32, rv34, rv36] : List Int)).bind fun rv40 =>
  some rv40
-- slices.CompactFunc[[]seismonet/api.Record,seismonet/api.Record]
noncomputable def slices_CompactFunc_Lapi_Record_api_Record_j1 (sv2183 : ((List Record) × Int × Int)) (sv2527 : (List Record)) (k2528 : Int) : Option (((List Record) × Int × Int) ⊕ ((List Record) × Int)) :=
  (some (w64 (sv2183.2.2 + 1))).bind fun k2_2530 =>
  some (Sum.inl (sv2527, k2528, k2_2530))
noncomputable def slices_CompactFunc_Lapi_Record_api_Record_l11 (eq6 : Record → Record → Option Bool) (sv825 : Int) (l2182 : (List Record)) (sv2183 : ((List Record) × Int × Int)) : Option (((List Record) × Int × Int) ⊕ ((List Record) × Int)) :=
  (if (decide (sv2183.2.2 < (l2182.length : Int))) = true then
    (ixV sv2183.1 sv825 l2182.length sv2183.2.2).bind fun x2468 =>
    (ixV sv2183.1 sv825 l2182.length (w64 (sv2183.2.2 - 1))).bind fun x2480 =>
    (eq6 x2468 x2480).bind fun rv2486 =>
    (if (!rv2486) = true then
      (ixV sv2183.1 sv825 l2182.length sv2183.2.2).bind fun x2539 =>
      (ix sv2183.1 sv2183.2.1).bind fun x2546 =>
      (setM sv2183.1 sv2183.2.1 x2539).bind fun l2558 =>
      (some (w64 (sv2183.2.1 + 1))).bind fun k2563 =>
      slices_CompactFunc_Lapi_Record_api_Record_j1 sv2183 l2558 k2563
    else
      slices_CompactFunc_Lapi_Record_api_Record_j1 sv2183 sv2183.1 sv2183.2.1)
  else
    some (Sum.inr (sv2183.1, sv2183.2.1)))
noncomputable def slices_CompactFunc_Lapi_Record_api_Record_l7 (s1 : (List Record)) (eq6 : Record → Record → Option Bool) (sv825 : Int) : Option (Int ⊕ (List Record)) :=
  (if (decide (sv825 < (s1.length : Int))) = true then
    (ix s1 sv825).bind fun x1909 =>
    (ix s1 (w64 (sv825 - 1))).bind fun x1926 =>
    (eq6 x1909 x1926).bind fun rv1938 =>
    (if rv1938 = true then
      (subM s1 sv825 (s1.length : Int)).bind fun l2182 =>
      (whileM (slices_CompactFunc_Lapi_Record_api_Record_l11 eq6 sv825 l2182) (s1, sv825, 1)).bind fun e2392 =>
      (subM e2392.1 e2392.2 (e2392.1.length : Int)).bind fun l2569 =>
      (some (copyM e2392.1 e2392.2 (e2392.1.length : Int) (List.replicate l2569.length ((⟨(⟨ByteArray.empty, ByteArray.empty, ByteArray.empty, ByteArray.empty⟩ : SourceID), 0, 0, (⟨0, 0⟩ : Rate), 0, 0, 0, ([] : List Int)⟩ : Record) : Record)))).bind fun l2570 =>
      (subM l2570 0 e2392.2).bind fun l2579 =>
      some (Sum.inr l2579)
    else
      (some (w64 (sv825 + 1))).bind fun k2583 =>
      some (Sum.inl k2583))
  else
    Option.map Sum.inr (some s1))
noncomputable def slices_CompactFunc_Lapi_Record_api_Record (s1 : (List Record)) (eq6 : Record → Record → Option Bool) : Option (List Record) :=
  (if (decide ((s1.length : Int) < 2)) = true then
    some s1
  else
    whileM (slices_CompactFunc_Lapi_Record_api_Record_l7 s1 eq6) (1))
-- slices.Equal[[]int,int]
noncomputable def slices_Equal_Lint_int_l2 (s1_1 : (List Int)) (s2_5 : (List Int)) (sv103 : Int) : Option (Int ⊕ Bool) :=
  (if (decide (sv103 < (s1_1.length : Int))) = true then
    (ix s1_1 sv103).bind fun x229 =>
    (ix s2_5 sv103).bind fun x242 =>
    (if (x229 != x242) = true then
      some (Sum.inr false)
    else
      some (Sum.inl (w64 (sv103 + 1))))
  else
    Option.map Sum.inr (some true))
noncomputable def slices_Equal_Lint_int (s1_1 : (List Int)) (s2_5 : (List Int)) : Option Bool :=
  (if ((s1_1.length : Int) != (s2_5.length : Int)) = true then
    some false
  else
    whileM (slices_Equal_Lint_int_l2 s1_1 s2_5) (0))
-- seismonet/record.Same
noncomputable def record_Same (a1 : Record) (b5 : Record) : Option Bool :=
  ((if ((((((((a1.Source.Network == b5.Source.Network) && ((a1.Source.Station == b5.Source.Station) && ((a1.Source.Location == b5.Source.Location) && ((a1.Source.Channel == b5.Source.Channel) && true)))) && (a1.Start == b5.Start)) && (a1.First == b5.First)) && ((a1.Rate.Num == b5.Rate.Num) && ((a1.Rate.Den == b5.Rate.Den) && true))) && (a1.Error == b5.Error)) && (a1.Run == b5.Run)) && (a1.Seq == b5.Seq)) = true then
    (slices_Equal_Lint_int a1.Samples b5.Samples).bind fun rv28 =>
    some rv28
  else
    some false)).bind fun c25 =>
  some c25
-- seismonet/compose.order
noncomputable def compose_order_l1 (rv6 : (List Record)) (sv16 : ((List Record) × Int)) : Option (((List Record) × Int) ⊕ (List Record)) :=
  (if (decide (sv16.2 < (rv6.length : Int))) = true then
    (ix sv16.1 sv16.2).bind fun x224 =>
    (slices_Clone_Lint_int x224.Samples).bind fun rv240 =>
    (ix sv16.1 sv16.2).bind fun x252 =>
    (setM sv16.1 sv16.2 (⟨x252.Source, x252.Start, x252.First, x252.Rate, x252.Error, x252.Run, x252.Seq, rv240⟩ : Record)).bind fun l264 =>
    some (Sum.inl (l264, (w64 (sv16.2 + 1))))
  else
    some (Sum.inr sv16.1))
noncomputable def compose_order (l1 : (List Record)) : Option (List Record) :=
  (slices_Clone_Lapi_Record_api_Record l1).bind fun rv6 =>
  (whileM (compose_order_l1 rv6) (rv6, 0)).bind fun e169 =>
  (slices_SortFunc_Lapi_Record_api_Record e169 record_Compare).bind fun rv270 =>
  (slices_CompactFunc_Lapi_Record_api_Record rv270 record_Same).bind fun rv282 =>
  some rv282
-- seismonet/compose.Order
noncomputable def compose_Order (l1 : (List Record)) : Option ((List Record) × Int) :=
  (compose_Valid l1).bind fun rv6 =>
  (if (!rv6) = true then
    some (([] : List Record), 1)
  else
    (compose_order l1).bind fun rv15 =>
    some (rv15, 0))
-- seismonet/continuity.at
noncomputable def continuity_at (r1 : Record) (i5 : Int) : Option Int :=
  (rate_Time r1.Start r1.Rate (w64 (r1.First + i5))).bind fun rv8 =>
  some rv8.1
-- slices.Sort[[]int,int]
noncomputable def slices_Sort_Lint_int (x1 : (List Int)) : Option (List Int) :=
  sortI x1
-- slices.Compact[[]int,int]
noncomputable def slices_Compact_Lint_int_j1 (sv1662 : ((List Int) × Int × Int)) (sv1912 : (List Int)) (k1913 : Int) : Option (((List Int) × Int × Int) ⊕ ((List Int) × Int)) :=
  (some (w64 (sv1662.2.2 + 1))).bind fun k2_1915 =>
  some (Sum.inl (sv1912, k1913, k2_1915))
noncomputable def slices_Compact_Lint_int_l11 (sv628 : Int) (l1661 : (List Int)) (sv1662 : ((List Int) × Int × Int)) : Option (((List Int) × Int × Int) ⊕ ((List Int) × Int)) :=
  (if (decide (sv1662.2.2 < (l1661.length : Int))) = true then
    (ixV sv1662.1 sv628 l1661.length sv1662.2.2).bind fun x1875 =>
    (ixV sv1662.1 sv628 l1661.length (w64 (sv1662.2.2 - 1))).bind fun x1883 =>
    (if (x1875 != x1883) = true then
      (ixV sv1662.1 sv628 l1661.length sv1662.2.2).bind fun x1924 =>
      (ix sv1662.1 sv1662.2.1).bind fun x1927 =>
      (setM sv1662.1 sv1662.2.1 x1924).bind fun l1935 =>
      (some (w64 (sv1662.2.1 + 1))).bind fun k1940 =>
      slices_Compact_Lint_int_j1 sv1662 l1935 k1940
    else
      slices_Compact_Lint_int_j1 sv1662 sv1662.1 sv1662.2.1)
  else
    some (Sum.inr (sv1662.1, sv1662.2.1)))
noncomputable def slices_Compact_Lint_int_l7 (s1 : (List Int)) (sv628 : Int) : Option (Int ⊕ (List Int)) :=
  (if (decide (sv628 < (s1.length : Int))) = true then
    (ix s1 sv628).bind fun x1456 =>
    (ix s1 (w64 (sv628 - 1))).bind fun x1469 =>
    (if (x1456 == x1469) = true then
      (subM s1 sv628 (s1.length : Int)).bind fun l1661 =>
      (whileM (slices_Compact_Lint_int_l11 sv628 l1661) (s1, sv628, 1)).bind fun e1817 =>
      (subM e1817.1 e1817.2 (e1817.1.length : Int)).bind fun l1946 =>
      (some (copyM e1817.1 e1817.2 (e1817.1.length : Int) (List.replicate l1946.length (0 : Int)))).bind fun l1947 =>
      (subM l1947 0 e1817.2).bind fun l1956 =>
      some (Sum.inr l1956)
    else
      (some (w64 (sv628 + 1))).bind fun k1960 =>
      some (Sum.inl k1960))
  else
    Option.map Sum.inr (some s1))
noncomputable def slices_Compact_Lint_int (s1 : (List Int)) : Option (List Int) :=
  (if (decide ((s1.length : Int) < 2)) = true then
    some s1
  else
    whileM (slices_Compact_Lint_int_l7 s1) (1))
-- seismonet/continuity.borders
noncomputable def continuity_borders_j1 (sv453 : ((List Int) × Int)) (out579 : (List Int)) : Option (((List Int) × Int) ⊕ (List Int)) :=
  some (Sum.inl (out579, (w64 (sv453.2 + 1))))
noncomputable def continuity_borders_l6 (from5 : Int) (to6 : Int) (x437 : Record) (sv453 : ((List Int) × Int)) : Option (((List Int) × Int) ⊕ (List Int)) :=
  (if (decide (sv453.2 < (w64 ((x437.Samples.length : Int) + 1)))) = true then
    (continuity_at x437 sv453.2).bind fun rv560 =>
    (if ((decide (from5 < rv560)) && (decide (rv560 < to6))) = true then
      (appM 8 sv453.1 ([rv560] : List Int)).bind fun l584 =>
      continuity_borders_j1 sv453 l584
    else
      continuity_borders_j1 sv453 sv453.1)
  else
    some (Sum.inr sv453.1))
noncomputable def continuity_borders_l3 (l1 : (List Record)) (from5 : Int) (to6 : Int) (sv9 : ((List Int) × Int)) : Option (((List Int) × Int) ⊕ (List Int)) :=
  (if (decide (sv9.2 < (l1.length : Int))) = true then
    (ix l1 sv9.2).bind fun x437 =>
    (whileM (continuity_borders_l6 from5 to6 x437) (sv9.1, 0)).bind fun e531 =>
    some (Sum.inl (e531, (w64 (sv9.2 + 1))))
  else
    some (Sum.inr sv9.1))
noncomputable def continuity_borders (l1 : (List Record)) (from5 : Int) (to6 : Int) : Option (List Int) :=
  (whileM (continuity_borders_l3 l1 from5 to6) (([from5, to6] : List Int), 0)).bind fun e327 =>
  (slices_Sort_Lint_int e327).bind fun rv592 =>
  (slices_Compact_Lint_int rv592).bind fun rv604 =>
  some rv604
-- seismonet/rate.check
noncomputable def rate_check (start1 : Int) (r2 : Rate) (t3 : Int) : Option Int :=
  (rate_Valid r2).bind fun rv6 =>
  (if (!rv6) = true then
    some 1
  else
    (rate_in start1 0 9007199254740992).bind fun rv15 =>
    ((if (!rv15) = true then
      some true
    else
      (rate_in t3 0 18014398509481984).bind fun rv32 =>
      some (!rv32))).bind fun c29 =>
    (if c29 = true then
      some 2
    else
      some 0))
-- seismonet/rate.ceil
noncomputable def rate_ceil (r1 : Rate) (x2 : Int) : Option Int :=
  (rate_micros r1).bind fun rv5 =>
  (quoM .i64 x2 rv5).bind fun quo12 =>
  (remM x2 rv5).bind fun rem14 =>
  (quoM .i64 (w64 ((w64 ((w64 (rem14 * r1.Num)) + rv5)) - 1)) rv5).bind fun quo16 =>
  (some (w64 ((w64 (quo12 * r1.Num)) + quo16))).bind fun x18 =>
  some x18
-- seismonet/rate.upto
noncomputable def rate_upto (r1 : Rate) (x2 : Int) : Option Int :=
  (rate_ceil r1 (w64 (x2 + 1))).bind fun rv5 =>
  (some (w64 (rv5 - 1))).bind fun x12 =>
  some x12
-- seismonet/rate.Index
noncomputable def rate_Index (start1 : Int) (r2 : Rate) (t3 : Int) : Option (Int × Int) :=
  (rate_check start1 r2 t3).bind fun rv6 =>
  (if (rv6 != 0) = true then
    some (0, rv6)
  else
    (if (decide (t3 < start1)) = true then
      some ((-1), 0)
    else
      (rate_upto r2 (w64 (t3 - start1))).bind fun rv17 =>
      (some (min rv17 16777216)).bind fun x24 =>
      some (x24, 0)))
-- seismonet/continuity.cover
noncomputable def continuity_cover (r1 : Record) (t5 : Int) : Option (Int × Int × Bool) :=
  (continuity_at r1 0).bind fun rv8 =>
  ((if (decide (t5 < rv8)) = true then
    some true
  else
    (continuity_at r1 (r1.Samples.length : Int)).bind fun rv25 =>
    some (decide (rv25 ≤ t5)))).bind fun c22 =>
  (if c22 = true then
    some (0, 0, false)
  else
    (rate_Index r1.Start r1.Rate t5).bind fun rv34 =>
    (rate_Time r1.Start r1.Rate rv34.1).bind fun rv41 =>
    (ix r1.Samples (w64 (rv34.1 - r1.First))).bind fun x49 =>
    some (rv41.1, x49, true))
-- seismonet/continuity.look
noncomputable def continuity_look_j1 (sv8 : (Int × Bool × Int × Int × Int)) (x164 : Int) (x165 : Bool) (time166 : Int) (value167 : Int) : Option ((Int × Bool × Int × Int × Int) ⊕ (Int × Bool)) :=
  some (Sum.inl (x164, x165, time166, value167, (w64 (sv8.2.2.2.2 + 1))))
noncomputable def continuity_look_j2 (sv8 : (Int × Bool × Int × Int × Int)) (rv187 : (Int × Int × Bool)) (time197 : Int) (value198 : Int) : Option ((Int × Bool × Int × Int × Int) ⊕ (Int × Bool)) :=
  continuity_look_j1 sv8 (w64 (sv8.1 + 1)) ((sv8.2.1 && (rv187.1 == time197)) && (rv187.2.1 == value198)) time197 value198
noncomputable def continuity_look_l1 (l1 : (List Record)) (t5 : Int) (sv8 : (Int × Bool × Int × Int × Int)) : Option ((Int × Bool × Int × Int × Int) ⊕ (Int × Bool)) :=
  (if (decide (sv8.2.2.2.2 < (l1.length : Int))) = true then
    (ix l1 sv8.2.2.2.2).bind fun x170 =>
    (continuity_cover x170 t5).bind fun rv187 =>
    (if (!rv187.2.2) = true then
      continuity_look_j1 sv8 sv8.1 sv8.2.1 sv8.2.2.1 sv8.2.2.2.1
    else
      (if ((w64 (sv8.1 + 1)) == 1) = true then
        continuity_look_j2 sv8 rv187 rv187.1 rv187.2.1
      else
        continuity_look_j2 sv8 rv187 sv8.2.2.1 sv8.2.2.2.1))
  else
    some (Sum.inr (sv8.1, sv8.2.1)))
noncomputable def continuity_look (l1 : (List Record)) (t5 : Int) : Option Continuity_state :=
  (whileM (continuity_look_l1 l1 t5) (0, true, 0, 0, 0)).bind fun e127 =>
  some (⟨e127.1, e127.2⟩ : Continuity_state)
-- seismonet/continuity.Overlaps
noncomputable def continuity_Overlaps_j1 (sv39 : ((List Overlap) × Int)) (out557 : (List Overlap)) : Option (((List Overlap) × Int) ⊕ (List Overlap)) :=
  (some (w64 (sv39.2 + 1))).bind fun i559 =>
  some (Sum.inl (out557, i559))
noncomputable def continuity_Overlaps_j2 (sv39 : ((List Overlap) × Int)) (out719 : (List Overlap)) : Option (((List Overlap) × Int) ⊕ (List Overlap)) :=
  continuity_Overlaps_j1 sv39 out719
noncomputable def continuity_Overlaps_l1 (rv17 : ((List Record) × Int)) (rv28 : (List Int)) (sv39 : ((List Overlap) × Int)) : Option (((List Overlap) × Int) ⊕ (List Overlap)) :=
  (if (decide ((w64 (sv39.2 + 1)) < (rv28.length : Int))) = true then
    (ix rv28 sv39.2).bind fun x562 =>
    (continuity_look rv17.1 x562).bind fun rv574 =>
    (if (decide (rv574.depth_ < 2)) = true then
      continuity_Overlaps_j1 sv39 sv39.1
    else
      (some (sv39.1.length : Int)).bind fun n584 =>
      (if (decide (0 < n584)) = true then
        (ix sv39.1 (w64 (n584 - 1))).bind fun x587 =>
        (ix rv28 sv39.2).bind fun x600 =>
        some (x587.To == x600)
      else
        some false).bind fun c607 =>
      (if c607 = true then
        (ix sv39.1 (w64 (n584 - 1))).bind fun x610 =>
        some (x610.Same == rv574.same_)
      else
        some false).bind fun c621 =>
      (if c621 = true then
        (ix rv28 (w64 (sv39.2 + 1))).bind fun x723 =>
        (ix sv39.1 (w64 (n584 - 1))).bind fun x732 =>
        (setM sv39.1 (w64 (n584 - 1)) (⟨x732.From, x723, x732.Same⟩ : Overlap)).bind fun l744 =>
        continuity_Overlaps_j2 sv39 l744
      else
        (ix rv28 sv39.2).bind fun x749 =>
        (ix rv28 (w64 (sv39.2 + 1))).bind fun x758 =>
        (appM 24 sv39.1 ([(⟨x749, x758, rv574.same_⟩ : Overlap)] : List Overlap)).bind fun l768 =>
        continuity_Overlaps_j2 sv39 l768))
  else
    some (Sum.inr sv39.1))
noncomputable def continuity_Overlaps (l1 : (List Record)) (from5 : Int) (to6 : Int) : Option ((List Overlap) × Int) :=
  (continuity_check l1 from5 to6).bind fun rv8 =>
  (if (rv8 != 0) = true then
    some (([] : List Overlap), rv8)
  else
    (compose_Order l1).bind fun rv17 =>
    (continuity_borders rv17.1 from5 to6).bind fun rv28 =>
    (whileM (continuity_Overlaps_l1 rv17 rv28) (([] : List Overlap), 0)).bind fun e426 =>
    (if (decide (4096 < (e426.length : Int))) = true then
      some (([] : List Overlap), 8)
    else
      some (e426, 0)))
-- seismonet/seismonetref08.Same
noncomputable def ref08_Same_l2 (a1 : (List Span)) (b5 : (List Span)) (sv109 : Int) : Option (Int ⊕ Bool) :=
  (if (decide (sv109 < (a1.length : Int))) = true then
    (ix a1 sv109).bind fun x241 =>
    (ix b5 sv109).bind fun x254 =>
    (if (!((x241.From == x254.From) && ((x241.To == x254.To) && true))) = true then
      some (Sum.inr false)
    else
      (some (w64 (sv109 + 1))).bind fun i270 =>
      some (Sum.inl i270))
  else
    Option.map Sum.inr (some true))
noncomputable def ref08_Same (a1 : (List Span)) (b5 : (List Span)) : Option Bool :=
  (if ((a1.length : Int) != (b5.length : Int)) = true then
    some false
  else
    whileM (ref08_Same_l2 a1 b5) (0))
-- seismonet/seismonetlaw16.sane
noncomputable def law16_sane : Option Bool :=
  (some ([(⟨(⟨(⟨#[65]⟩ : ByteArray), (⟨#[66]⟩ : ByteArray), ByteArray.empty, (⟨#[72, 72, 90]⟩ : ByteArray)⟩ : SourceID), 0, 0, (⟨1, 10⟩ : Rate), 0, 0, 0, ([1] : List Int)⟩ : Record), (⟨(⟨(⟨#[65]⟩ : ByteArray), (⟨#[66]⟩ : ByteArray), ByteArray.empty, (⟨#[72, 72, 90]⟩ : ByteArray)⟩ : SourceID), 20000000, 0, (⟨1, 10⟩ : Rate), 0, 0, 0, ([1] : List Int)⟩ : Record), (⟨(⟨(⟨#[65]⟩ : ByteArray), (⟨#[66]⟩ : ByteArray), ByteArray.empty, (⟨#[72, 72, 90]⟩ : ByteArray)⟩ : SourceID), 0, 0, (⟨1, 10⟩ : Rate), 0, 0, 1, ([1] : List Int)⟩ : Record)] : List Record)).bind fun l12 =>
  (continuity_Gaps l12 0 30000000).bind fun rv18 =>
  (continuity_Overlaps l12 0 30000000).bind fun rv30 =>
  ((if ((rv18.2 == 0) && (rv30.2 == 0)) = true then
    (ref08_Same rv18.1 ([(⟨10000000, 20000000⟩ : Span)] : List Span)).bind fun rv56 =>
    some rv56
  else
    some false)).bind fun c51 =>
  ((if (c51 && ((rv30.1.length : Int) == 1)) = true then
    (ix rv30.1 0).bind fun x81 =>
    some ((x81.From == 0) && ((x81.To == 10000000) && ((x81.Same == true) && true)))
  else
    some false)).bind fun c77 =>
  some c77
-- seismonet/seismonetmade.Roll
noncomputable def made_Roll (l1 : (List Int)) : Option Dice :=
  some (⟨l1, 0⟩ : Dice)
-- (*seismonet/seismonetmade.Dice).Next
noncomputable def made_Dice_Next_j1 (d1 : Dice) (x30 : Int) : Option (Int × Dice) :=
  some (x30, (⟨d1.L, (w64 (d1.At + 1))⟩ : Dice))
noncomputable def made_Dice_Next (d1 : Dice) (n6 : Int) : Option (Int × Dice) :=
  (if ((decide ((d1.L.length : Int) ≤ d1.At)) || (decide (n6 < 1))) = true then
    some (0, d1)
  else
    (ix d1.L d1.At).bind fun x12 =>
    (remM x12 n6).bind fun rem24 =>
    (if (decide (rem24 < 0)) = true then
      (some (w64 (rem24 + n6))).bind fun x33 =>
      made_Dice_Next_j1 d1 x33
    else
      made_Dice_Next_j1 d1 rem24))
-- (*seismonet/seismonetmade.Dice).Source
noncomputable def made_Dice_Source (d1 : Dice) : Option (SourceID × Dice) :=
  (made_Dice_Next d1 3).bind fun rv10 =>
  (ix ([(⟨#[71, 82]⟩ : ByteArray), (⟨#[88]⟩ : ByteArray), (⟨#[55, 65]⟩ : ByteArray)] : List ByteArray) rv10.1).bind fun x16 =>
  (made_Dice_Next rv10.2 4).bind fun rv26 =>
  (ix ([(⟨#[70, 85, 82]⟩ : ByteArray), (⟨#[65]⟩ : ByteArray), (⟨#[65, 66, 67, 68, 69]⟩ : ByteArray), (⟨#[70, 85]⟩ : ByteArray)] : List ByteArray) rv26.1).bind fun x32 =>
  (made_Dice_Next rv26.2 3).bind fun rv42 =>
  (ix ([(⟨#[]⟩ : ByteArray), (⟨#[48, 48]⟩ : ByteArray), (⟨#[49, 48]⟩ : ByteArray)] : List ByteArray) rv42.1).bind fun x48 =>
  (made_Dice_Next rv42.2 3).bind fun rv58 =>
  (ix ([(⟨#[72, 72, 90]⟩ : ByteArray), (⟨#[72, 72, 78]⟩ : ByteArray), (⟨#[66, 72, 90]⟩ : ByteArray)] : List ByteArray) rv58.1).bind fun x64 =>
  some ((⟨x16, x32, x48, x64⟩ : SourceID), rv58.2)
-- (*seismonet/seismonetmade.Dice).Pick
noncomputable def made_Dice_Pick (d1 : Dice) (l6 : (List Int)) : Option (Int × Dice) :=
  (made_Dice_Next d1 (l6.length : Int)).bind fun rv11 =>
  (ix l6 rv11.1).bind fun x22 =>
  some (x22, rv11.2)
-- seismonet/seismonetref01.In
noncomputable def ref01_In (n1 : Int) (lo2 : Int) (hi3 : Int) : Option Bool :=
  some ((decide (lo2 ≤ n1)) && (decide (n1 ≤ hi3)))
-- seismonet/seismonetref02.gcd
noncomputable def ref02_gcd_l1 (sv3 : (Int × Int)) : Option ((Int × Int) ⊕ Int) :=
  (if (sv3.2 != 0) = true then
    (remM sv3.1 sv3.2).bind fun rem29 =>
    some (Sum.inl (sv3.2, rem29))
  else
    some (Sum.inr sv3.1))
noncomputable def ref02_gcd (a1 : Int) (b2 : Int) : Option Int :=
  (whileM (ref02_gcd_l1) (a1, b2)).bind fun e21 =>
  some e21
-- seismonet/seismonetref02.New
noncomputable def ref02_New (num1 : Int) (den2 : Int) : Option (Rate × Int) :=
  (ref01_In num1 1 4096).bind fun rv5 =>
  ((if (!rv5) = true then
    some true
  else
    (ref01_In den2 1 4096).bind fun rv22 =>
    some (!rv22))).bind fun c19 =>
  (if c19 = true then
    some ((⟨0, 0⟩ : Rate), 2)
  else
    (ref02_gcd num1 den2).bind fun rv31 =>
    (quoM .i64 num1 rv31).bind fun quo38 =>
    (quoM .i64 den2 rv31).bind fun quo40 =>
    some ((⟨quo38, quo40⟩ : Rate), 0))
-- (*seismonet/seismonetmade.Dice).Record
noncomputable def made_Dice_Record_l1 (sv168 : ((List Int) × Int × (List Int) × Int)) : Option (((List Int) × Int × (List Int) × Int) ⊕ ((List Int) × Int × (List Int))) :=
  (if (decide (0 < sv168.2.2.2)) = true then
    (made_Dice_Next (⟨sv168.1, sv168.2.1⟩ : Dice) 4).bind fun rv255 =>
    (appM 8 sv168.2.2.1 ([rv255.1] : List Int)).bind fun l262 =>
    (some (w64 (sv168.2.2.2 - 1))).bind fun i278 =>
    some (Sum.inl (rv255.2.L, rv255.2.At, l262, i278))
  else
    some (Sum.inr (sv168.1, sv168.2.1, sv168.2.2.1)))
noncomputable def made_Dice_Record (d1 : Dice) (s6 : SourceID) (n7 : Int) : Option (Record × Dice) :=
  (made_Dice_Pick d1 ([1, 2, 2, 3] : List Int)).bind fun rv13 =>
  (made_Dice_Pick rv13.2 ([1, 1, 1, 3] : List Int)).bind fun rv26 =>
  (ref02_New rv13.1 rv26.1).bind fun rv37 =>
  (made_Dice_Next rv26.2 40).bind fun rv45 =>
  (made_Dice_Pick rv45.2 ([0, 0, 3] : List Int)).bind fun rv52 =>
  (made_Dice_Pick rv52.2 ([0, 0, 10, 500] : List Int)).bind fun rv59 =>
  (made_Dice_Next rv59.2 2).bind fun rv64 =>
  (made_Dice_Next rv64.2 6).bind fun rv69 =>
  (made_Dice_Next rv69.2 n7).bind fun rv157 =>
  (some (w64 (1 + rv157.1))).bind fun i167 =>
  (whileM (made_Dice_Record_l1) (rv157.2.L, rv157.2.At, ([] : List Int), i167)).bind fun e232 =>
  some ((⟨s6, (w64 (1000000000000 + (w64 (250000 * rv45.1)))), rv52.1, rv37.1, rv59.1, rv64.1, rv69.1, e232.2.2⟩ : Record), (⟨e232.1, e232.2.1⟩ : Dice))
-- (*seismonet/seismonetmade.Dice).Records
noncomputable def made_Dice_Records_j1 (sv28 : ((List Int) × Int × (List Record) × Int)) (x576 : (List Int)) (x577 : Int) (x578 : ByteArray) (x579 : ByteArray) (x580 : ByteArray) (x581 : ByteArray) (x582 : Int) (x583 : Int) (x584 : Int) (x585 : Int) (x586 : Int) (x587 : Int) (x588 : Int) (x589 : (List Int)) : Option (((List Int) × Int × (List Record) × Int) ⊕ ((List Int) × Int × (List Record))) :=
  (appM 144 sv28.2.2.1 ([(⟨(⟨x578, x579, x580, x581⟩ : SourceID), x582, x583, (⟨x584, x585⟩ : Rate), x586, x587, x588, x589⟩ : Record)] : List Record)).bind fun l593 =>
  (some (w64 (sv28.2.2.2 - 1))).bind fun i598 =>
  some (Sum.inl (x576, x577, l593, i598))
noncomputable def made_Dice_Records_l1 (rv8 : (SourceID × Dice)) (sv28 : ((List Int) × Int × (List Record) × Int)) : Option (((List Int) × Int × (List Record) × Int) ⊕ ((List Int) × Int × (List Record))) :=
  (if (decide (0 < sv28.2.2.2)) = true then
    (made_Dice_Record (⟨sv28.1, sv28.2.1⟩ : Dice) rv8.1 6).bind fun rv491 =>
    ((if (decide (0 < (sv28.2.2.1.length : Int))) = true then
      (made_Dice_Next rv491.2 5).bind fun rv521 =>
      some (rv521.2.L, rv521.2.At, (rv521.1 == 0))
    else
      some (rv491.2.L, rv491.2.At, false))).bind fun c516 =>
    (if c516.2.2 = true then
      (made_Dice_Next (⟨c516.1, c516.2.1⟩ : Dice) (sv28.2.2.1.length : Int)).bind fun rv601 =>
      (ix sv28.2.2.1 rv601.1).bind fun x612 =>
      (made_Dice_Pick rv601.2 ([x612.Seq, 9] : List Int)).bind fun rv630 =>
      made_Dice_Records_j1 sv28 rv630.2.L rv630.2.At x612.Source.Network x612.Source.Station x612.Source.Location x612.Source.Channel x612.Start x612.First x612.Rate.Num x612.Rate.Den x612.Error x612.Run rv630.1 x612.Samples
    else
      made_Dice_Records_j1 sv28 c516.1 c516.2.1 rv491.1.Source.Network rv491.1.Source.Station rv491.1.Source.Location rv491.1.Source.Channel rv491.1.Start rv491.1.First rv491.1.Rate.Num rv491.1.Rate.Den rv491.1.Error rv491.1.Run rv491.1.Seq rv491.1.Samples)
  else
    some (Sum.inr (sv28.1, sv28.2.1, sv28.2.2.1)))
noncomputable def made_Dice_Records (d1 : Dice) (n6 : Int) : Option ((List Record) × Dice) :=
  (made_Dice_Source d1).bind fun rv8 =>
  (made_Dice_Next rv8.2 (w64 (n6 + 1))).bind fun rv19 =>
  (whileM (made_Dice_Records_l1 rv8) (rv19.2.L, rv19.2.At, ([] : List Record), rv19.1)).bind fun e374 =>
  some (e374.2.2, (⟨e374.1, e374.2.1⟩ : Dice))
-- seismonet/continuity.Depth
noncomputable def continuity_Depth_j1 (sv17 : (Int × Int)) (n179 : Int) : Option ((Int × Int) ⊕ Int) :=
  some (Sum.inl (n179, (w64 (sv17.2 + 1))))
noncomputable def continuity_Depth_l1 (t5 : Int) (rv7 : ((List Record) × Int)) (sv17 : (Int × Int)) : Option ((Int × Int) ⊕ Int) :=
  (if (decide (sv17.2 < (rv7.1.length : Int))) = true then
    (ix rv7.1 sv17.2).bind fun x152 =>
    (continuity_cover x152 t5).bind fun rv169 =>
    (if rv169.2.2 = true then
      (some (w64 (sv17.1 + 1))).bind fun n182 =>
      continuity_Depth_j1 sv17 n182
    else
      continuity_Depth_j1 sv17 sv17.1)
  else
    some (Sum.inr sv17.1))
noncomputable def continuity_Depth (l1 : (List Record)) (t5 : Int) : Option Int :=
  (compose_Order l1).bind fun rv7 =>
  (whileM (continuity_Depth_l1 t5 rv7) (0, 0)).bind fun e116 =>
  some e116
-- seismonet/seismonetref08.Normal
noncomputable def ref08_Normal_j1 (sv5 : ((List Span) × Int)) (sorted716 : (List Span)) : Option (((List Span) × Int) ⊕ (List Span)) :=
  (some (w64 (sv5.2 + 1))).bind fun i718 =>
  some (Sum.inl (sorted716, i718))
noncomputable def ref08_Normal_l6 (l1 : (List Span)) (sv5 : ((List Span) × Int)) (sv745 : Int) : Option (Int ⊕ Int) :=
  (if (decide (0 < sv745)) = true then
    (ix sv5.1 (w64 (sv745 - 1))).bind fun x833 =>
    (ix l1 sv5.2).bind fun x846 =>
    some (decide (x846.From < x833.From))
  else
    some false).bind fun c852 =>
  (if c852 = true then
    (some (w64 (sv745 - 1))).bind fun k883 =>
    some (Sum.inl k883)
  else
    some (Sum.inr sv745))
noncomputable def ref08_Normal_l3 (l1 : (List Span)) (sv5 : ((List Span) × Int)) : Option (((List Span) × Int) ⊕ (List Span)) :=
  (if (decide (sv5.2 < (l1.length : Int))) = true then
    (ix l1 sv5.2).bind fun x721 =>
    (ix l1 sv5.2).bind fun x734 =>
    (if (decide (x734.To ≤ x721.From)) = true then
      ref08_Normal_j1 sv5 sv5.1
    else
      (some (sv5.1.length : Int)).bind fun k744 =>
      (whileM (ref08_Normal_l6 l1 sv5) (k744)).bind fun e829 =>
      (ix l1 sv5.2).bind fun x887 =>
      (appM 16 sv5.1 ([x887] : List Span)).bind fun l896 =>
      (subM l896 (w64 (e829 + 1)) (l896.length : Int)).bind fun l904 =>
      (subM l896 e829 (l896.length : Int)).bind fun l909 =>
      (some (copyM l896 (w64 (e829 + 1)) (l896.length : Int) l909)).bind fun l910 =>
      (ix l1 sv5.2).bind fun x920 =>
      (ix l910 e829).bind fun x928 =>
      (setM l910 e829 x920).bind fun l940 =>
      ref08_Normal_j1 sv5 l940)
  else
    some (Sum.inr sv5.1))
noncomputable def ref08_Normal_j4 (sv945 : ((List Span) × Int)) (out1475 : (List Span)) : Option (((List Span) × Int) ⊕ (List Span)) :=
  (some (w64 (sv945.2 + 1))).bind fun i1477 =>
  some (Sum.inl (out1475, i1477))
noncomputable def ref08_Normal_l7 (e539 : (List Span)) (sv945 : ((List Span) × Int)) : Option (((List Span) × Int) ⊕ (List Span)) :=
  (if (decide (sv945.2 < (e539.length : Int))) = true then
    (some (sv945.1.length : Int)).bind fun n1352 =>
    (if (decide (0 < n1352)) = true then
      (ix e539 sv945.2).bind fun x1355 =>
      (ix sv945.1 (w64 (n1352 - 1))).bind fun x1368 =>
      some (decide (x1355.From ≤ x1368.To))
    else
      some false).bind fun c1379 =>
    (if c1379 = true then
      (ix sv945.1 (w64 (n1352 - 1))).bind fun x1481 =>
      (ix e539 sv945.2).bind fun x1494 =>
      (ix sv945.1 (w64 (n1352 - 1))).bind fun x1507 =>
      (setM sv945.1 (w64 (n1352 - 1)) (⟨x1507.From, (max x1481.To x1494.To)⟩ : Span)).bind fun l1515 =>
      ref08_Normal_j4 sv945 l1515
    else
      (ix e539 sv945.2).bind fun x1521 =>
      (appM 16 sv945.1 ([x1521] : List Span)).bind fun l1535 =>
      ref08_Normal_j4 sv945 l1535)
  else
    some (Sum.inr sv945.1))
noncomputable def ref08_Normal (l1 : (List Span)) : Option (List Span) :=
  (whileM (ref08_Normal_l3 l1) (([] : List Span), 0)).bind fun e539 =>
  (whileM (ref08_Normal_l7 e539) (([] : List Span), 0)).bind fun e1248 =>
  some e1248
-- seismonet/seismonetref08.Union
noncomputable def ref08_Union (a1 : (List Span)) (b5 : (List Span)) : Option (List Span) :=
  (appM 16 ([] : List Span) a1).bind fun l10 =>
  (appM 16 l10 b5).bind fun l15 =>
  (ref08_Normal l15).bind fun rv20 =>
  some rv20
-- seismonet/seismonetref08.Has
noncomputable def ref08_Has_l2 (l1 : (List Span)) (x5 : Int) (sv119 : Int) : Option (Int ⊕ Bool) :=
  (if (decide (sv119 < (l1.length : Int))) = true then
    (ix l1 sv119).bind fun x271 =>
    ((if (decide (x271.From ≤ x5)) = true then
      (ix l1 sv119).bind fun x295 =>
      some (decide (x5 < x295.To))
    else
      some false)).bind fun c291 =>
    (if c291 = true then
      some (Sum.inr true)
    else
      (some (w64 (sv119 + 1))).bind fun i305 =>
      some (Sum.inl i305))
  else
    Option.map Sum.inr (some false))
noncomputable def ref08_Has (l1 : (List Span)) (x5 : Int) : Option Bool :=
  whileM (ref08_Has_l2 l1 x5) (0)
-- seismonet/seismonetref03.code
noncomputable def ref03_code_l2 (s1 : ByteArray) (lo2 : Int) (hi3 : Int) (sv111 : Int) : Option (Int ⊕ Bool) :=
  (if (decide (sv111 < (s1.size : Int))) = true then
    (byteAt s1 sv111).bind fun c254 =>
    ((if (decide (65 ≤ c254)) = true then
      (byteAt s1 sv111).bind fun c261 =>
      some (decide (c261 ≤ 90))
    else
      some false)).bind fun c258 =>
    ((if c258 = true then
      some true
    else
      (byteAt s1 sv111).bind fun c275 =>
      ((if (decide (48 ≤ c275)) = true then
        (byteAt s1 sv111).bind fun c282 =>
        some (decide (c282 ≤ 57))
      else
        some false)).bind fun c279 =>
      some c279)).bind fun c272 =>
    (if (!c272) = true then
      some (Sum.inr false)
    else
      (some (w64 (sv111 + 1))).bind fun i287 =>
      some (Sum.inl i287))
  else
    Option.map Sum.inr (some ((decide (lo2 ≤ (s1.size : Int))) && (decide ((s1.size : Int) ≤ hi3)))))
noncomputable def ref03_code (s1 : ByteArray) (lo2 : Int) (hi3 : Int) : Option Bool :=
  whileM (ref03_code_l2 s1 lo2 hi3) (0)
-- seismonet/seismonetref03.Valid
noncomputable def ref03_Valid (s1 : SourceID) : Option Bool :=
  (ref03_code s1.Network 1 2).bind fun rv4 =>
  ((if rv4 = true then
    (ref03_code s1.Station 1 5).bind fun rv21 =>
    some rv21
  else
    some false)).bind fun c18 =>
  ((if c18 = true then
    ((if (s1.Location.toList == (⟨#[]⟩ : ByteArray).toList) = true then
      some true
    else
      (ref03_code s1.Location 2 2).bind fun rv58 =>
      some rv58)).bind fun c55 =>
    some c55
  else
    some false)).bind fun c45 =>
  ((if c45 = true then
    (ref03_code s1.Channel 3 3).bind fun rv75 =>
    some rv75
  else
    some false)).bind fun c72 =>
  some c72
-- seismonet/seismonetref02.Valid
noncomputable def ref02_Valid (r1 : Rate) : Option Bool :=
  (ref01_In r1.Num 1 4096).bind fun rv4 =>
  ((if rv4 = true then
    (ref01_In r1.Den 1 4096).bind fun rv21 =>
    some rv21
  else
    some false)).bind fun c18 =>
  ((if c18 = true then
    (ref02_gcd r1.Num r1.Den).bind fun rv38 =>
    some (rv38 == 1)
  else
    some false)).bind fun c35 =>
  some c35
-- seismonet/seismonetref05.Sample
noncomputable def ref05_Sample (n1 : Int) : Option Bool :=
  (ref01_In n1 (-1073741823) 1073741823).bind fun rv3 =>
  some rv3
-- seismonet/seismonetref05.InRange
noncomputable def ref05_InRange_l2 (l1 : (List Int)) (sv82 : Int) : Option (Int ⊕ Bool) :=
  (if (decide (sv82 < (l1.length : Int))) = true then
    (ix l1 sv82).bind fun x186 =>
    (ref05_Sample x186).bind fun rv198 =>
    (if (!rv198) = true then
      some (Sum.inr false)
    else
      (some (w64 (sv82 + 1))).bind fun i208 =>
      some (Sum.inl i208))
  else
    Option.map Sum.inr (some true))
noncomputable def ref05_InRange (l1 : (List Int)) : Option Bool :=
  whileM (ref05_InRange_l2 l1) (0)
-- seismonet/seismonetref02.Time
noncomputable def ref02_Time (start1 : Int) (r2 : Rate) (k3 : Int) : Option (Int × Int) :=
  (ref02_Valid r2).bind fun rv6 =>
  (if (!rv6) = true then
    some (0, 1)
  else
    (ref01_In start1 0 9007199254740992).bind fun rv15 =>
    ((if (!rv15) = true then
      some true
    else
      (ref01_In k3 0 16777216).bind fun rv32 =>
      some (!rv32))).bind fun c29 =>
    (if c29 = true then
      some (0, 2)
    else
      (quoM .i64 (w64 ((w64 (k3 * r2.Den)) * 1000000)) r2.Num).bind fun quo41 =>
      (some (w64 (start1 + quo41))).bind fun x43 =>
      some (x43, 0)))
-- seismonet/seismonetref14.Time
noncomputable def ref14_Time (r1 : Record) (i5 : Int) : Option Int :=
  (ref02_Time r1.Start r1.Rate (w64 (r1.First + i5))).bind fun rv8 =>
  some rv8.1
-- seismonet/seismonetref14.Valid
noncomputable def ref14_Valid (r1 : Record) : Option Bool :=
  (ref03_Valid r1.Source).bind fun rv7 =>
  ((if (!rv7) = true then
    some true
  else
    (ref02_Valid r1.Rate).bind fun rv24 =>
    some (!rv24))).bind fun c21 =>
  ((if c21 = true then
    some true
  else
    (ref01_In r1.Start 0 9007199254740992).bind fun rv41 =>
    some (!rv41))).bind fun c38 =>
  ((if c38 = true then
    some true
  else
    (ref01_In r1.First 0 16777216).bind fun rv58 =>
    some (!rv58))).bind fun c55 =>
  ((if c55 = true then
    some true
  else
    (ref01_In (r1.Samples.length : Int) 1 65536).bind fun rv75 =>
    some (!rv75))).bind fun c72 =>
  ((if (c72 || (decide (16777216 < (w64 (r1.First + (r1.Samples.length : Int)))))) = true then
    some true
  else
    (ref05_InRange r1.Samples).bind fun rv93 =>
    some (!rv93))).bind fun c90 =>
  (if c90 = true then
    some false
  else
    (ref01_In r1.Error 0 1099511627776).bind fun rv102 =>
    ((if rv102 = true then
      (ref01_In r1.Run 0 65535).bind fun rv119 =>
      some rv119
    else
      some false)).bind fun c116 =>
    ((if c116 = true then
      (ref01_In r1.Seq 0 1073741824).bind fun rv136 =>
      some rv136
    else
      some false)).bind fun c133 =>
    ((if c133 = true then
      (ref14_Time r1 (r1.Samples.length : Int)).bind fun rv153 =>
      some (decide (rv153 ≤ 9007199254740992))
    else
      some false)).bind fun c150 =>
    some c150)
-- seismonet/seismonetref15.fine
noncomputable def ref15_fine_l2 (l1 : (List Record)) (sv157 : Int) : Option (Int ⊕ Bool) :=
  (if (decide (sv157 < (l1.length : Int))) = true then
    (ix l1 sv157).bind fun x361 =>
    (ref14_Valid x361).bind fun rv377 =>
    (if (!rv377) = true then
      some true
    else
      (ix l1 sv157).bind fun x380 =>
      (ix l1 0).bind fun x392 =>
      some (!((x380.Source.Network == x392.Source.Network) && ((x380.Source.Station == x392.Source.Station) && ((x380.Source.Location == x392.Source.Location) && ((x380.Source.Channel == x392.Source.Channel) && true)))))).bind fun c402 =>
    (if c402 = true then
      some (Sum.inr false)
    else
      (some (w64 (sv157 + 1))).bind fun i445 =>
      some (Sum.inl i445))
  else
    Option.map Sum.inr (some true))
noncomputable def ref15_fine (l1 : (List Record)) : Option Bool :=
  whileM (ref15_fine_l2 l1) (0)
-- seismonet/seismonetref15.Valid
noncomputable def ref15_Valid (l1 : (List Record)) : Option Bool :=
  ((if (decide ((l1.length : Int) ≤ 256)) = true then
    (ref15_fine l1).bind fun rv16 =>
    some rv16
  else
    some false)).bind fun c13 =>
  some c13
-- seismonet/seismonetref14.Span
noncomputable def ref14_Span (r1 : Record) : Option (Span × Int) :=
  (ref14_Valid r1).bind fun rv8 =>
  (if (!rv8) = true then
    some ((⟨0, 0⟩ : Span), 1)
  else
    (ref14_Time r1 0).bind fun rv17 =>
    (ref14_Time r1 (r1.Samples.length : Int)).bind fun rv19 =>
    some ((⟨rv17, rv19⟩ : Span), 0))
-- seismonet/seismonetref15.Covered
noncomputable def ref15_Covered_l1 (l1 : (List Record)) (sv14 : ((List Span) × Int)) : Option (((List Span) × Int) ⊕ (List Span)) :=
  (if (decide (sv14.2 < (l1.length : Int))) = true then
    (ix l1 sv14.2).bind fun x172 =>
    (ref14_Span x172).bind fun rv188 =>
    (appM 16 sv14.1 ([rv188.1] : List Span)).bind fun l198 =>
    (some (w64 (sv14.2 + 1))).bind fun i203 =>
    some (Sum.inl (l198, i203))
  else
    some (Sum.inr sv14.1))
noncomputable def ref15_Covered (l1 : (List Record)) : Option ((List Span) × Int) :=
  (ref15_Valid l1).bind fun rv6 =>
  (if (!rv6) = true then
    some (([] : List Span), 1)
  else
    (whileM (ref15_Covered_l1 l1) (([] : List Span), 0)).bind fun e131 =>
    (ref08_Normal e131).bind fun rv206 =>
    some (rv206, 0))
-- seismonet/seismonetref08.Meet
noncomputable def ref08_Meet_j1 (sv871 : ((List Span) × Int)) (out1193 : (List Span)) : Option (((List Span) × Int) ⊕ (List Span)) :=
  (some (w64 (sv871.2 + 1))).bind fun k1195 =>
  some (Sum.inl (out1193, k1195))
noncomputable def ref08_Meet_l6 (rv10 : (List Span)) (rv21 : (List Span)) (sv31 : ((List Span) × Int)) (sv871 : ((List Span) × Int)) : Option (((List Span) × Int) ⊕ (List Span)) :=
  (if (decide (sv871.2 < (rv21.length : Int))) = true then
    (ix rv10 sv31.2).bind fun x1137 =>
    (ix rv21 sv871.2).bind fun x1150 =>
    (ix rv10 sv31.2).bind fun x1163 =>
    (ix rv21 sv871.2).bind fun x1172 =>
    (if (decide ((max x1137.From x1150.From) < (min x1163.To x1172.To))) = true then
      (appM 16 sv871.1 ([(⟨(max x1137.From x1150.From), (min x1163.To x1172.To)⟩ : Span)] : List Span)).bind fun l1200 =>
      ref08_Meet_j1 sv871 l1200
    else
      ref08_Meet_j1 sv871 sv871.1)
  else
    some (Sum.inr sv871.1))
noncomputable def ref08_Meet_l3 (rv10 : (List Span)) (rv21 : (List Span)) (sv31 : ((List Span) × Int)) : Option (((List Span) × Int) ⊕ (List Span)) :=
  (if (decide (sv31.2 < (rv10.length : Int))) = true then
    (whileM (ref08_Meet_l6 rv10 rv21 sv31) (sv31.1, 0)).bind fun e1069 =>
    (some (w64 (sv31.2 + 1))).bind fun i1206 =>
    some (Sum.inl (e1069, i1206))
  else
    some (Sum.inr sv31.1))
noncomputable def ref08_Meet (a1 : (List Span)) (b5 : (List Span)) : Option (List Span) :=
  (ref08_Normal a1).bind fun rv10 =>
  (ref08_Normal b5).bind fun rv21 =>
  (whileM (ref08_Meet_l3 rv10 rv21) (([] : List Span), 0)).bind fun e661 =>
  (ref08_Normal e661).bind fun rv1210 =>
  some rv1210
-- seismonet/seismonetref08.Cut
noncomputable def ref08_Cut (l1 : (List Span)) (from5 : Int) (to6 : Int) : Option (List Span) :=
  (ref08_Meet l1 ([(⟨from5, to6⟩ : Span)] : List Span)).bind fun rv10 =>
  some rv10
-- seismonet/seismonetref08.near
noncomputable def ref08_near_l2 (l1 : (List Span)) (sv181 : Int) : Option (Int ⊕ Bool) :=
  (if (decide (sv181 < (l1.length : Int))) = true then
    (ix l1 sv181).bind fun x417 =>
    (ref01_In x417.From (-1152921504606846976) 1152921504606846976).bind fun rv429 =>
    ((if (!rv429) = true then
      some true
    else
      (ix l1 sv181).bind fun x455 =>
      (ref01_In x455.To (-1152921504606846976) 1152921504606846976).bind fun rv462 =>
      some (!rv462))).bind fun c451 =>
    (if c451 = true then
      some (Sum.inr false)
    else
      (some (w64 (sv181 + 1))).bind fun i472 =>
      some (Sum.inl i472))
  else
    Option.map Sum.inr (some true))
noncomputable def ref08_near (l1 : (List Span)) : Option Bool :=
  whileM (ref08_near_l2 l1) (0)
-- seismonet/seismonetref08.Length
noncomputable def ref08_Length_l1 (rv6 : (List Span)) (sv25 : (Int × Int)) : Option ((Int × Int) ⊕ Int) :=
  (if (decide (sv25.2 < (rv6.length : Int))) = true then
    (ix rv6 sv25.2).bind fun x146 =>
    (ix rv6 sv25.2).bind fun x159 =>
    (some (w64 (sv25.1 + (w64 (x146.To - x159.From))))).bind fun n167 =>
    (some (w64 (sv25.2 + 1))).bind fun i170 =>
    some (Sum.inl (n167, i170))
  else
    some (Sum.inr sv25.1))
noncomputable def ref08_Length (l1 : (List Span)) : Option (Int × Bool) :=
  (ref08_Normal l1).bind fun rv6 =>
  (ref08_near rv6).bind fun rv17 =>
  (if (!rv17) = true then
    some (0, false)
  else
    (whileM (ref08_Length_l1 rv6) (0, 0)).bind fun e115 =>
    some (e115, true))
-- seismonet/seismonetlaw16.ContinuityDivides
noncomputable def law16_ContinuityDivides_l2 (rv41 : ((List Record) × Dice)) (mid55 : Int) (rv57 : ((List Span) × Int)) (rv91 : ((List Overlap) × Int)) (rv102 : Int) (sv333 : (Bool × Int)) : Option ((Bool × Int) ⊕ Bool) :=
  (if (decide (sv333.2 < (rv91.1.length : Int))) = true then
    (ix rv91.1 sv333.2).bind fun x551 =>
    (if (decide (x551.To ≤ x551.From)) = true then
      some true
    else
      (if (decide (0 < sv333.2)) = true then
        (ix rv91.1 (w64 (sv333.2 - 1))).bind fun x565 =>
        (if (decide (x551.From < x565.To)) = true then
          some true
        else
          (ix rv91.1 (w64 (sv333.2 - 1))).bind fun x574 =>
          (if (x551.From == x574.To) = true then
            (ix rv91.1 (w64 (sv333.2 - 1))).bind fun x583 =>
            some (x551.Same == x583.Same)
          else
            some false).bind fun c590 =>
          some c590).bind fun c591 =>
        some c591
      else
        some false).bind fun c592 =>
      some c592).bind fun c593 =>
    (if c593 = true then
      some (Sum.inr false)
    else
      some (Sum.inl ((sv333.1 || ((decide (x551.From ≤ mid55)) && (decide (mid55 < x551.To)))), (w64 (sv333.2 + 1)))))
  else
    Option.map Sum.inr ((ref15_Covered rv41.1).bind fun rv703 =>
    (ref08_Cut rv703.1 999999000000 1000016000000).bind fun rv714 =>
    (ref08_Length rv714).bind fun rv726 =>
    (ref08_Length rv57.1).bind fun rv733 =>
    ((if ((sv333.1 == (decide (2 ≤ rv102))) && ((w64 (rv726.1 + rv733.1)) == (w64 (1000016000000 - 999999000000)))) = true then
      (law16_sane).bind fun rv751 =>
      some rv751
    else
      some false)).bind fun c748 =>
    some c748))
noncomputable def law16_ContinuityDivides (t1 : (List Int)) (n5 : Int) : Option Bool :=
  (made_Light t1).bind fun rv7 =>
  (if (!rv7) = true then
    (law16_sane).bind fun rv23 =>
    some rv23
  else
    (made_Roll t1).bind fun rv30 =>
    (made_Dice_Records rv30 6).bind fun rv41 =>
    (some (w64 (999999000000 + (w64 (83333 * (Int.tmod (w64 n5) 200)))))).bind fun mid55 =>
    (continuity_Gaps rv41.1 999999000000 1000016000000).bind fun rv57 =>
    (continuity_Gaps rv41.1 999999000000 mid55).bind fun rv69 =>
    (continuity_Gaps rv41.1 mid55 1000016000000).bind fun rv80 =>
    (continuity_Overlaps rv41.1 999999000000 1000016000000).bind fun rv91 =>
    (continuity_Depth rv41.1 mid55).bind fun rv102 =>
    ((if ((((rv57.2 != 0) || (rv69.2 != 0)) || (rv80.2 != 0)) || (rv91.2 != 0)) = true then
      some true
    else
      (ref08_Union rv69.1 rv80.1).bind fun rv135 =>
      (ref08_Same rv57.1 rv135).bind fun rv148 =>
      some (!rv148))).bind fun c132 =>
    ((if c132 = true then
      some true
    else
      (ref08_Has rv57.1 mid55).bind fun rv165 =>
      some (!(rv165 == (rv102 == 0))))).bind fun c162 =>
    (if c162 = true then
      some false
    else
      whileM (law16_ContinuityDivides_l2 rv41 mid55 rv57 rv91 rv102) (false, 0)))
-- seismonet/seismonetref03.compare
noncomputable def ref03_compare (a1 : ByteArray) (b2 : ByteArray) : Option Int :=
  (if (Op.bytesLess a1.toList b2.toList) = true then
    some (-1)
  else
    (if (!((Op.bytesLess a1.toList b2.toList) || (a1.toList == b2.toList))) = true then
      some 1
    else
      some 0))
-- seismonet/seismonetref03.Compare
noncomputable def ref03_Compare_l2 (rv6 : Int) (rv8 : Int) (rv10 : Int) (rv12 : Int) (sv51 : Int) : Option (Int ⊕ Int) :=
  (if (decide (sv51 < 4)) = true then
    (ix ([rv6, rv8, rv10, rv12] : List Int) sv51).bind fun x76 =>
    (if (x76 != 0) = true then
      some (Sum.inr x76)
    else
      some (Sum.inl (w64 (sv51 + 1))))
  else
    Option.map Sum.inr (some 0))
noncomputable def ref03_Compare (a1 : SourceID) (b2 : SourceID) : Option Int :=
  (ref03_compare a1.Network b2.Network).bind fun rv6 =>
  (ref03_compare a1.Station b2.Station).bind fun rv8 =>
  (ref03_compare a1.Location b2.Location).bind fun rv10 =>
  (ref03_compare a1.Channel b2.Channel).bind fun rv12 =>
  whileM (ref03_Compare_l2 rv6 rv8 rv10 rv12) (0)
-- seismonet/seismonetref14.number
noncomputable def ref14_number (a1 : Int) (b2 : Int) : Option Int :=
  (if (decide (a1 < b2)) = true then
    some (-1)
  else
    (if (decide (b2 < a1)) = true then
      some 1
    else
      some 0))
-- seismonet/seismonetref14.Compare
noncomputable def ref14_Compare_l4 (a1 : Record) (b5 : Record) (sv266 : Int) : Option (Int ⊕ Int) :=
  (if (decide (sv266 < (a1.Samples.length : Int))) = true then
    (ix a1.Samples sv266).bind fun x406 =>
    (ix b5.Samples sv266).bind fun x419 =>
    (ref14_number x406 x419).bind fun rv431 =>
    (if (rv431 != 0) = true then
      some (Sum.inr rv431)
    else
      (some (w64 (sv266 + 1))).bind fun i442 =>
      some (Sum.inl i442))
  else
    Option.map Sum.inr (some 0))
noncomputable def ref14_Compare_l2 (a1 : Record) (b5 : Record) (rv46 : Int) (rv48 : Int) (rv50 : Int) (rv52 : Int) (rv54 : Int) (rv56 : Int) (rv58 : Int) (rv60 : Int) (rv62 : Int) (rv64 : Int) (sv133 : Int) : Option (Int ⊕ Int) :=
  (if (decide (sv133 < 10)) = true then
    (ix ([rv46, rv48, rv50, rv52, rv54, rv56, rv58, rv60, rv62, rv64] : List Int) sv133).bind fun x158 =>
    (if (x158 != 0) = true then
      some (Sum.inr x158)
    else
      some (Sum.inl (w64 (sv133 + 1))))
  else
    Option.map Sum.inr (whileM (ref14_Compare_l4 a1 b5) (0)))
noncomputable def ref14_Compare_j2 (a1 : Record) (b5 : Record) (x27 : Int) (y44 : Int) : Option Int :=
  (ref03_Compare a1.Source b5.Source).bind fun rv46 =>
  (ref14_number x27 y44).bind fun rv48 =>
  (ref14_number a1.Start b5.Start).bind fun rv50 =>
  (ref14_number a1.First b5.First).bind fun rv52 =>
  (ref14_number a1.Rate.Num b5.Rate.Num).bind fun rv54 =>
  (ref14_number a1.Rate.Den b5.Rate.Den).bind fun rv56 =>
  (ref14_number a1.Error b5.Error).bind fun rv58 =>
  (ref14_number a1.Run b5.Run).bind fun rv60 =>
  (ref14_number a1.Seq b5.Seq).bind fun rv62 =>
  (ref14_number (a1.Samples.length : Int) (b5.Samples.length : Int)).bind fun rv64 =>
  whileM (ref14_Compare_l2 a1 b5 rv46 rv48 rv50 rv52 rv54 rv56 rv58 rv60 rv62 rv64) (0)
noncomputable def ref14_Compare_j1 (a1 : Record) (b5 : Record) (x27 : Int) : Option Int :=
  (ref14_Valid b5).bind fun rv29 =>
  (if rv29 = true then
    (ref14_Time b5 0).bind fun rv449 =>
    ref14_Compare_j2 a1 b5 x27 rv449
  else
    ref14_Compare_j2 a1 b5 x27 0)
noncomputable def ref14_Compare (a1 : Record) (b5 : Record) : Option Int :=
  (ref14_Valid a1).bind fun rv12 =>
  (if rv12 = true then
    (ref14_Time a1 0).bind fun rv457 =>
    ref14_Compare_j1 a1 b5 rv457
  else
    ref14_Compare_j1 a1 b5 0)
-- seismonet/seismonetref15.order
noncomputable def ref15_order_j1 (sv5 : ((List Record) × Int)) (out1028 : (List Record)) : Option (((List Record) × Int) ⊕ (List Record)) :=
  (some (w64 (sv5.2 + 1))).bind fun i1030 =>
  some (Sum.inl (out1028, i1030))
noncomputable def ref15_order_l6 (l1 : (List Record)) (sv5 : ((List Record) × Int)) (sv1033 : Int) : Option (Int ⊕ Int) :=
  (if (decide (0 < sv1033)) = true then
    (ix sv5.1 (w64 (sv1033 - 1))).bind fun x1166 =>
    (ix l1 sv5.2).bind fun x1183 =>
    (ref14_Compare x1166 x1183).bind fun rv1199 =>
    some (decide (0 < rv1199))
  else
    some false).bind fun c1200 =>
  (if c1200 = true then
    (some (w64 (sv1033 - 1))).bind fun k1251 =>
    some (Sum.inl k1251)
  else
    some (Sum.inr sv1033))
noncomputable def ref15_order_l3 (l1 : (List Record)) (sv5 : ((List Record) × Int)) : Option (((List Record) × Int) ⊕ (List Record)) :=
  (if (decide (sv5.2 < (l1.length : Int))) = true then
    (some (sv5.1.length : Int)).bind fun k1032 =>
    (whileM (ref15_order_l6 l1 sv5) (k1032)).bind fun e1162 =>
    (if (decide (0 < e1162)) = true then
      (ix sv5.1 (w64 (e1162 - 1))).bind fun x1255 =>
      (ix l1 sv5.2).bind fun x1272 =>
      (ref14_Compare x1255 x1272).bind fun rv1288 =>
      some (rv1288 == 0)
    else
      some false).bind fun c1289 =>
    (if c1289 = true then
      ref15_order_j1 sv5 sv5.1
    else
      (ix l1 sv5.2).bind fun x1339 =>
      (appM 144 sv5.1 ([x1339] : List Record)).bind fun l1357 =>
      (subM l1357 (w64 (e1162 + 1)) (l1357.length : Int)).bind fun l1365 =>
      (subM l1357 e1162 (l1357.length : Int)).bind fun l1370 =>
      (some (copyM l1357 (w64 (e1162 + 1)) (l1357.length : Int) l1370)).bind fun l1371 =>
      (ix l1 sv5.2).bind fun x1381 =>
      (ix l1371 e1162).bind fun x1393 =>
      (setM l1371 e1162 x1381).bind fun l1409 =>
      ref15_order_j1 sv5 l1409)
  else
    some (Sum.inr sv5.1))
noncomputable def ref15_order (l1 : (List Record)) : Option (List Record) :=
  (whileM (ref15_order_l3 l1) (([] : List Record), 0)).bind fun e773 =>
  some e773
-- seismonet/seismonetref15.Order
noncomputable def ref15_Order (l1 : (List Record)) : Option ((List Record) × Int) :=
  (ref15_Valid l1).bind fun rv6 =>
  (if (!rv6) = true then
    some (([] : List Record), 1)
  else
    (ref15_order l1).bind fun rv15 =>
    some (rv15, 0))
-- seismonet/seismonetref14.At
noncomputable def ref14_At (r1 : Record) (i5 : Int) : Option (Int × Int) :=
  (ref14_Valid r1).bind fun rv8 =>
  (if (!rv8) = true then
    some (0, 1)
  else
    (ref01_In i5 0 (r1.Samples.length : Int)).bind fun rv17 =>
    (if (!rv17) = true then
      some (0, 2)
    else
      (ref14_Time r1 i5).bind fun rv26 =>
      some (rv26, 0)))
-- seismonet/seismonetlaw16.ContinuitySame
noncomputable def law16_ContinuitySame_j1 (sv15362 : (Int × Int × Int × Bool × Int)) (x15543 : Int) (x15544 : Int) (count15545 : Int) (same15546 : Bool) : Option ((Int × Int × Int × Bool × Int) ⊕ (Int × Int × Int × Bool)) :=
  some (Sum.inl (x15543, x15544, count15545, same15546, (w64 (sv15362.2.2.2.2 + 1))))
noncomputable def law16_ContinuitySame_j2 (sv15362 : (Int × Int × Int × Bool × Int)) (rv15548 : (Int × Int)) (x15566 : Int) (x15580 : Int) (x15581 : Int) : Option ((Int × Int × Int × Bool × Int) ⊕ (Int × Int × Int × Bool)) :=
  (some (w64 (sv15362.2.2.1 + 1))).bind fun count15584 =>
  law16_ContinuitySame_j1 sv15362 x15580 x15581 count15584 (sv15362.2.2.2.1 && ((rv15548.1 == x15580) && ((x15566 == x15581) && true)))
noncomputable def law16_ContinuitySame_l129 (x14693 : Int) (x15346 : Record) (sv15362 : (Int × Int × Int × Bool × Int)) : Option ((Int × Int × Int × Bool × Int) ⊕ (Int × Int × Int × Bool)) :=
  (if (decide (sv15362.2.2.2.2 < (x15346.Samples.length : Int))) = true then
    (ref14_At x15346 sv15362.2.2.2.2).bind fun rv15548 =>
    (ref14_At x15346 (w64 (sv15362.2.2.2.2 + 1))).bind fun rv15555 =>
    (if ((decide (x14693 < rv15548.1)) || (decide (rv15555.1 ≤ x14693))) = true then
      law16_ContinuitySame_j1 sv15362 sv15362.1 sv15362.2.1 sv15362.2.2.1 sv15362.2.2.2.1
    else
      (ix x15346.Samples sv15362.2.2.2.2).bind fun x15566 =>
      (if (sv15362.2.2.1 == 0) = true then
        law16_ContinuitySame_j2 sv15362 rv15548 x15566 rv15548.1 x15566
      else
        law16_ContinuitySame_j2 sv15362 rv15548 x15566 sv15362.1 sv15362.2.1))
  else
    some (Sum.inr (sv15362.1, sv15362.2.1, sv15362.2.2.1, sv15362.2.2.2.1)))
noncomputable def law16_ContinuitySame_l126 (rv69 : ((List Record) × Int)) (x14693 : Int) (sv14701 : (Int × Int × Int × Bool × Int)) : Option ((Int × Int × Int × Bool × Int) ⊕ (Int × Bool)) :=
  (if (decide (sv14701.2.2.2.2 < (rv69.1.length : Int))) = true then
    (ix rv69.1 sv14701.2.2.2.2).bind fun x15346 =>
    (whileM (law16_ContinuitySame_l129 x14693 x15346) (sv14701.1, sv14701.2.1, sv14701.2.2.1, sv14701.2.2.2.1, 0)).bind fun e15500 =>
    some (Sum.inl (e15500.1, e15500.2.1, e15500.2.2.1, e15500.2.2.2, (w64 (sv14701.2.2.2.2 + 1))))
  else
    some (Sum.inr (sv14701.2.2.1, sv14701.2.2.2.1)))
noncomputable def law16_ContinuitySame_l115 (rv41 : ((List Record) × Dice)) (rv69 : ((List Record) × Int)) (sv4785 : Int) (x11063 : Overlap) (rem11076 : Int) (sv12627 : Int) : Option (Int ⊕ (Int ⊕ Bool)) :=
  (if (decide (sv12627 < (([x11063.From, (w64 (x11063.To - 1)), (w64 (x11063.From + rem11076))] : List Int).length : Int))) = true then
    (ix ([x11063.From, (w64 (x11063.To - 1)), (w64 (x11063.From + rem11076))] : List Int) sv12627).bind fun x14693 =>
    (whileM (law16_ContinuitySame_l126 rv69 x14693) (0, 0, 0, true, 0)).bind fun e15182 =>
    ((if ((decide (e15182.1 < 2)) || (!(e15182.2 == x11063.Same))) = true then
      some true
    else
      (continuity_Depth rv41.1 x14693).bind fun rv15602 =>
      some (rv15602 != e15182.1))).bind fun c15599 =>
    (if c15599 = true then
      some (Sum.inr (Sum.inr false))
    else
      some (Sum.inl (w64 (sv12627 + 1))))
  else
    Option.map Sum.inr (some (Sum.inl (w64 (sv4785 + 1)))))
noncomputable def law16_ContinuitySame_l67 (n5 : Int) (rv41 : ((List Record) × Dice)) (rv55 : ((List Overlap) × Int)) (rv69 : ((List Record) × Int)) (sv4785 : Int) : Option (Int ⊕ Bool) :=
  (if (decide (sv4785 < (rv55.1.length : Int))) = true then
    (ix rv55.1 sv4785).bind fun x11063 =>
    (remM (w64 ((w64 n5) * 100)) (w64 (x11063.To - x11063.From))).bind fun rem11076 =>
    whileM (law16_ContinuitySame_l115 rv41 rv69 sv4785 x11063 rem11076) (0)
  else
    Option.map Sum.inr ((law16_sane).bind fun rv15617 =>
    some rv15617))
noncomputable def law16_ContinuitySame (t1 : (List Int)) (n5 : Int) : Option Bool :=
  (made_Light t1).bind fun rv7 =>
  (if (!rv7) = true then
    (law16_sane).bind fun rv23 =>
    some rv23
  else
    (made_Roll t1).bind fun rv30 =>
    (made_Dice_Records rv30 6).bind fun rv41 =>
    (continuity_Overlaps rv41.1 0 9007199254740992).bind fun rv55 =>
    (if (rv55.2 != 0) = true then
      some false
    else
      (ref15_Order rv41.1).bind fun rv69 =>
      whileM (law16_ContinuitySame_l67 n5 rv41 rv55 rv69) (0)))
-- seismonet/record.Better
noncomputable def record_Better (a1 : Record) (b5 : Record) : Option Bool :=
  (cmp_Compare_int a1.Error b5.Error).bind fun rv12 =>
  (cmp_Compare_int b5.Run a1.Run).bind fun rv14 =>
  (cmp_Compare_int b5.Seq a1.Seq).bind fun rv16 =>
  (record_Compare a1 b5).bind fun rv18 =>
  (cmp_Or_int ([rv12, rv14, rv16, rv18] : List Int)).bind fun rv22 =>
  some (decide (rv22 < 0))
-- seismonet/compose.times
noncomputable def compose_times_l1 (r1 : Record) (sv6 : ((List Int) × Int)) : Option (((List Int) × Int) ⊕ (List Int)) :=
  (if (decide (sv6.2 < (w64 ((r1.Samples.length : Int) + 1)))) = true then
    (compose_at r1 sv6.2).bind fun rv85 =>
    (appM 8 sv6.1 ([rv85] : List Int)).bind fun l94 =>
    some (Sum.inl (l94, (w64 (sv6.2 + 1))))
  else
    some (Sum.inr sv6.1))
noncomputable def compose_times (r1 : Record) : Option (List Int) :=
  (whileM (compose_times_l1 r1) (([] : List Int), 0)).bind fun e63 =>
  some e63
-- seismonet/compose.kept
noncomputable def compose_kept_l6 (better5 : (List Span)) (rv11 : (List Int)) (sv25 : ((List Bool) × Int × Int)) (sv631 : Int) : Option (Int ⊕ Int) :=
  (if (decide (sv631 < (better5.length : Int))) = true then
    (ix better5 sv631).bind fun x734 =>
    (ix rv11 sv25.2.2).bind fun x747 =>
    some (decide (x734.To ≤ x747))
  else
    some false).bind fun c758 =>
  (if c758 = true then
    (some (w64 (sv631 + 1))).bind fun k794 =>
    some (Sum.inl k794)
  else
    some (Sum.inr sv631))
noncomputable def compose_kept_l3 (better5 : (List Span)) (rv11 : (List Int)) (l22 : (List Bool)) (sv25 : ((List Bool) × Int × Int)) : Option (((List Bool) × Int × Int) ⊕ (List Bool)) :=
  (if (decide (sv25.2.2 < (l22.length : Int))) = true then
    (whileM (compose_kept_l6 better5 rv11 sv25) (sv25.2.1)).bind fun e730 =>
    (if (e730 == (better5.length : Int)) = true then
      some true
    else
      (ix better5 e730).bind fun x798 =>
      (ix rv11 (w64 (sv25.2.2 + 1))).bind fun x811 =>
      some (decide (x811 ≤ x798.From))).bind fun c822 =>
    (ix sv25.1 sv25.2.2).bind fun x825 =>
    (setM sv25.1 sv25.2.2 c822).bind fun l837 =>
    some (Sum.inl (l837, e730, (w64 (sv25.2.2 + 1))))
  else
    some (Sum.inr sv25.1))
noncomputable def compose_kept (r1 : Record) (better5 : (List Span)) : Option (List Bool) :=
  (compose_times r1).bind fun rv11 =>
  (makeM 1 (false : Bool) (r1.Samples.length : Int)).bind fun l22 =>
  (whileM (compose_kept_l3 better5 rv11 l22) (l22, 0, 0)).bind fun e478 =>
  some e478
-- seismonet/record.sub
noncomputable def record_sub (r1 : Record) (from5 : Int) (to6 : Int) : Option Record :=
  (subM r1.Samples from5 to6).bind fun l14 =>
  (slices_Clone_Lint_int l14).bind fun rv16 =>
  some (⟨r1.Source, r1.Start, (w64 (r1.First + from5)), r1.Rate, r1.Error, r1.Run, r1.Seq, rv16⟩ : Record)
-- seismonet/record.Sub
noncomputable def record_Sub (r1 : Record) (from5 : Int) (to6 : Int) : Option (Record × Int) :=
  (record_Valid r1).bind fun rv10 =>
  (if (!rv10) = true then
    some ((⟨(⟨ByteArray.empty, ByteArray.empty, ByteArray.empty, ByteArray.empty⟩ : SourceID), 0, 0, (⟨0, 0⟩ : Rate), 0, 0, 0, ([] : List Int)⟩ : Record), 1)
  else
    (if (((decide (from5 < 0)) || (decide (to6 ≤ from5))) || (decide ((r1.Samples.length : Int) < to6))) = true then
      some ((⟨(⟨ByteArray.empty, ByteArray.empty, ByteArray.empty, ByteArray.empty⟩ : SourceID), 0, 0, (⟨0, 0⟩ : Rate), 0, 0, 0, ([] : List Int)⟩ : Record), 2)
    else
      (record_sub r1 from5 to6).bind fun rv23 =>
      some (rv23, 0)))
-- seismonet/compose.runs
noncomputable def compose_runs_l6 (keep5 : (List Bool)) (sv562 : Int) : Option (Int ⊕ Int) :=
  ((if (decide (sv562 < (keep5.length : Int))) = true then
    (ix keep5 sv562).bind fun x684 =>
    some x684
  else
    some false)).bind fun c680 =>
  (if c680 = true then
    (some (w64 (sv562 + 1))).bind fun to700 =>
    some (Sum.inl to700)
  else
    some (Sum.inr sv562))
noncomputable def compose_runs_j2 (out727 : (List Record)) (fromv728 : Int) : Option (((List Record) × Int) ⊕ (List Record)) :=
  (some (w64 (fromv728 + 1))).bind fun fromv730 =>
  some (Sum.inl (out727, fromv730))
noncomputable def compose_runs_l3 (r1 : Record) (keep5 : (List Bool)) (sv10 : ((List Record) × Int)) : Option (((List Record) × Int) ⊕ (List Record)) :=
  (if (decide (sv10.2 < (keep5.length : Int))) = true then
    (whileM (compose_runs_l6 keep5) (sv10.2)).bind fun e664 =>
    (if (decide (sv10.2 < e664)) = true then
      (record_Sub r1 sv10.2 e664).bind fun rv733 =>
      (appM 144 sv10.1 ([rv733.1] : List Record)).bind fun l748 =>
      compose_runs_j2 l748 e664
    else
      compose_runs_j2 sv10.1 sv10.2)
  else
    some (Sum.inr sv10.1))
noncomputable def compose_runs (r1 : Record) (keep5 : (List Bool)) : Option (List Record) :=
  (whileM (compose_runs_l3 r1 keep5) (([] : List Record), 0)).bind fun e424 =>
  some e424
-- seismonet/compose.compose
noncomputable def compose_compose_j1 (sv796 : ((List Span) × Int)) (better1022 : (List Span)) : Option (((List Span) × Int) ⊕ (List Span)) :=
  some (Sum.inl (better1022, (w64 (sv796.2 + 1))))
noncomputable def compose_compose_l6 (rv6 : (List Record)) (x780 : Record) (sv796 : ((List Span) × Int)) : Option (((List Span) × Int) ⊕ (List Span)) :=
  (if (decide (sv796.2 < (rv6.length : Int))) = true then
    (ix rv6 sv796.2).bind fun x984 =>
    (record_Better x984 x780).bind fun rv997 =>
    (if rv997 = true then
      (compose_extent x984).bind fun rv1025 =>
      (appM 16 sv796.1 ([rv1025] : List Span)).bind fun l1034 =>
      compose_compose_j1 sv796 l1034
    else
      compose_compose_j1 sv796 sv796.1)
  else
    some (Sum.inr sv796.1))
noncomputable def compose_compose_l3 (rv6 : (List Record)) (sv16 : ((List Record) × Int)) : Option (((List Record) × Int) ⊕ (List Record)) :=
  (if (decide (sv16.2 < (rv6.length : Int))) = true then
    (ix rv6 sv16.2).bind fun x780 =>
    (whileM (compose_compose_l6 rv6 x780) (([] : List Span), 0)).bind fun e934 =>
    (span_Normal e934).bind fun rv1040 =>
    (compose_kept x780 rv1040).bind fun rv1046 =>
    (compose_runs x780 rv1046).bind fun rv1052 =>
    (appM 144 sv16.1 rv1052).bind fun l1058 =>
    some (Sum.inl (l1058, (w64 (sv16.2 + 1))))
  else
    some (Sum.inr sv16.1))
noncomputable def compose_compose (l1 : (List Record)) : Option (List Record) :=
  (compose_order l1).bind fun rv6 =>
  (whileM (compose_compose_l3 rv6) (([] : List Record), 0)).bind fun e586 =>
  (slices_SortFunc_Lapi_Record_api_Record e586 record_Compare).bind fun rv1084 =>
  some rv1084
-- seismonet/compose.Compose
noncomputable def compose_Compose (l1 : (List Record)) : Option ((List Record) × Int) :=
  (compose_Valid l1).bind fun rv6 =>
  (if (!rv6) = true then
    some (([] : List Record), 1)
  else
    (compose_compose l1).bind fun rv15 =>
    some (rv15, 0))
-- seismonet/continuity.in
noncomputable def continuity_in (n1 : Int) (low2 : Int) (high3 : Int) : Option Bool :=
  some ((decide (low2 ≤ n1)) && (decide (n1 ≤ high3)))
-- seismonet/continuity.size
noncomputable def continuity_size (n1 : Int) : Option Int :=
  (some (max n1 (w64 (0 - n1)))).bind fun x3 =>
  some x3
-- slices.Grow[[]int,int]
noncomputable def slices_Grow_Lint_int_n_j1 (sv23 : (List Int)) : Option (List Int) :=
  some sv23
noncomputable def slices_Grow_Lint_int_n (n1 : Int) : Option (List Int) :=
  (if (decide (n1 < 0)) = true then
    none
  else
    (some (w64 (n1 - (w64 (((0 : Nat) : Int) - (([] : List Int).length : Int)))))).bind fun n5 =>
    (if (decide (0 < n5)) = true then
      (subM ([] : List Int) 0 ((0 : Nat) : Int)).bind fun l28 =>
      (makeM 8 (0 : Int) n5).bind fun l30 =>
      (subM l30 0 (([] : List Int).length : Int)).bind fun l36 =>
      slices_Grow_Lint_int_n_j1 l36
    else
      slices_Grow_Lint_int_n_j1 ([] : List Int)))
-- slices.Concat[[]int,int]
noncomputable def slices_Concat_Lint_int_l1 (slices1 : (List (List Int))) (sv5 : (Int × Int)) : Option ((Int × Int) ⊕ Int) :=
  (if (decide (sv5.2 < (slices1.length : Int))) = true then
    (ix slices1 sv5.2).bind fun x100 =>
    (some (w64 (sv5.1 + (x100.length : Int)))).bind fun size116 =>
    (if (decide (size116 < 0)) = true then
      none
    else
      some (Sum.inl (size116, (w64 (sv5.2 + 1)))))
  else
    some (Sum.inr sv5.1))
noncomputable def slices_Concat_Lint_int_l2 (slices1 : (List (List Int))) (sv131 : ((List Int) × Int)) : Option (((List Int) × Int) ⊕ (List Int)) :=
  (if (decide (sv131.2 < (slices1.length : Int))) = true then
    (ix slices1 sv131.2).bind fun x243 =>
    (appM 8 sv131.1 x243).bind fun l259 =>
    some (Sum.inl (l259, (w64 (sv131.2 + 1))))
  else
    some (Sum.inr sv131.1))
noncomputable def slices_Concat_Lint_int (slices1 : (List (List Int))) : Option (List Int) :=
  (whileM (slices_Concat_Lint_int_l1 slices1) (0, 0)).bind fun e74 =>
  (slices_Grow_Lint_int_n e74).bind fun rv121 =>
  (whileM (slices_Concat_Lint_int_l2 slices1) (rv121, 0)).bind fun e212 =>
  some e212
-- seismonet/continuity.body
noncomputable def continuity_body (s1 : Segment) : Option Record :=
  some (⟨(⟨(⟨#[78]⟩ : ByteArray), (⟨#[83]⟩ : ByteArray), ByteArray.empty, (⟨#[67, 72, 65]⟩ : ByteArray)⟩ : SourceID), s1.Start, s1.First, s1.Rate, s1.Error, 0, 0, s1.Samples⟩ : Record)
-- seismonet/continuity.ValidSegment
noncomputable def continuity_ValidSegment (s1 : Segment) : Option Bool :=
  (continuity_body s1).bind fun rv7 =>
  (record_Valid rv7).bind fun rv17 =>
  some rv17
-- (seismonet/continuity.builder).joined
noncomputable def continuity_builder_joined (b1 : Continuity_builder) (r5 : Record) (tolerance9 : Int) : Option (Continuity_builder × Bool) :=
  (if ((!((r5.Rate.Num == b1.Segment.Rate.Num) && ((r5.Rate.Den == b1.Segment.Rate.Den) && true))) || ((b1.Segment.Samples.length : Int) == 0)) = true then
    some (b1, false)
  else
    (rate_Time b1.Segment.Start b1.Segment.Rate (w64 (b1.Segment.First + (b1.Segment.Samples.length : Int)))).bind fun rv17 =>
    (continuity_at r5 0).bind fun rv24 =>
    (continuity_size (w64 (rv24 - rv17.1))).bind fun rv31 =>
    (if (decide (tolerance9 < rv31)) = true then
      some (b1, false)
    else
      (slices_Concat_Lint_int ([b1.Segment.Samples, r5.Samples] : List (List Int))).bind fun rv42 =>
      (continuity_ValidSegment (⟨b1.Segment.Start, b1.Segment.First, b1.Segment.Rate, (min (w64 ((max b1.worst_ r5.Error) + (max b1.off_ rv31))) 1099511627776), rv42⟩ : Segment)).bind fun rv163 =>
      some ((⟨(⟨b1.Segment.Start, b1.Segment.First, b1.Segment.Rate, (min (w64 ((max b1.worst_ r5.Error) + (max b1.off_ rv31))) 1099511627776), rv42⟩ : Segment), (max b1.worst_ r5.Error), (max b1.off_ rv31)⟩ : Continuity_builder), rv163)))
-- seismonet/continuity.Segments
noncomputable def continuity_Segments_j1 (sv29 : (Int × Int × Int × Int × Int × (List Int) × Int × Int × (List Segment) × Int)) (x439 : Int) (x440 : Int) (x441 : Int) (x442 : Int) (x443 : Int) (x444 : (List Int)) (x445 : Int) (x446 : Int) (out447 : (List Segment)) : Option ((Int × Int × Int × Int × Int × (List Int) × Int × Int × (List Segment) × Int) ⊕ (List Segment)) :=
  some (Sum.inl (x439, x440, x441, x442, x443, x444, x445, x446, out447, (w64 (sv29.2.2.2.2.2.2.2.2.2 + 1))))
noncomputable def continuity_Segments_l1 (tolerance5 : Int) (rv7 : ((List Record) × Int)) (sv29 : (Int × Int × Int × Int × Int × (List Int) × Int × Int × (List Segment) × Int)) : Option ((Int × Int × Int × Int × Int × (List Int) × Int × Int × (List Segment) × Int) ⊕ (List Segment)) :=
  (if (decide (sv29.2.2.2.2.2.2.2.2.2 < (rv7.1.length : Int))) = true then
    (ix rv7.1 sv29.2.2.2.2.2.2.2.2.2).bind fun x450 =>
    (continuity_builder_joined (⟨(⟨sv29.1, sv29.2.1, (⟨sv29.2.2.1, sv29.2.2.2.1⟩ : Rate), sv29.2.2.2.2.1, sv29.2.2.2.2.2.1⟩ : Segment), sv29.2.2.2.2.2.2.1, sv29.2.2.2.2.2.2.2.1⟩ : Continuity_builder) x450 tolerance5).bind fun rv467 =>
    (if rv467.2 = true then
      (ix sv29.2.2.2.2.2.2.2.2.1 (w64 ((sv29.2.2.2.2.2.2.2.2.1.length : Int) - 1))).bind fun x502 =>
      (setM sv29.2.2.2.2.2.2.2.2.1 (w64 ((sv29.2.2.2.2.2.2.2.2.1.length : Int) - 1)) rv467.1.Segment).bind fun l518 =>
      continuity_Segments_j1 sv29 rv467.1.Segment.Start rv467.1.Segment.First rv467.1.Segment.Rate.Num rv467.1.Segment.Rate.Den rv467.1.Segment.Error rv467.1.Segment.Samples rv467.1.worst_ rv467.1.off_ l518
    else
      (slices_Clone_Lint_int x450.Samples).bind fun rv522 =>
      (appM 64 sv29.2.2.2.2.2.2.2.2.1 ([(⟨x450.Start, x450.First, x450.Rate, x450.Error, rv522⟩ : Segment)] : List Segment)).bind fun l537 =>
      continuity_Segments_j1 sv29 x450.Start x450.First x450.Rate.Num x450.Rate.Den x450.Error rv522 x450.Error 0 l537)
  else
    some (Sum.inr sv29.2.2.2.2.2.2.2.2.1))
noncomputable def continuity_Segments (l1 : (List Record)) (tolerance5 : Int) : Option ((List Segment) × Int) :=
  (compose_Compose l1).bind fun rv7 =>
  (if (rv7.2 != 0) = true then
    some (([] : List Segment), rv7.2)
  else
    (continuity_in tolerance5 0 1000000).bind fun rv20 =>
    (if (!rv20) = true then
      some (([] : List Segment), 2)
    else
      (whileM (continuity_Segments_l1 tolerance5 rv7) (0, 0, 0, 0, 0, ([] : List Int), 0, 0, ([] : List Segment), 0)).bind fun e360 =>
      some (e360, 0)))
-- seismonet/seismonetref14.Better
noncomputable def ref14_Better_l2 (a1 : Record) (b5 : Record) (rv12 : Int) (rv14 : Int) (rv16 : Int) (sv50 : Int) : Option (Int ⊕ Bool) :=
  (if (decide (sv50 < 3)) = true then
    (ix ([rv12, rv14, rv16] : List Int) sv50).bind fun x75 =>
    (if (x75 != 0) = true then
      some (Sum.inr (decide (x75 < 0)))
    else
      some (Sum.inl (w64 (sv50 + 1))))
  else
    Option.map Sum.inr ((ref14_Compare a1 b5).bind fun rv80 =>
    some (decide (rv80 < 0))))
noncomputable def ref14_Better (a1 : Record) (b5 : Record) : Option Bool :=
  (ref14_number a1.Error b5.Error).bind fun rv12 =>
  (ref14_number b5.Run a1.Run).bind fun rv14 =>
  (ref14_number b5.Seq a1.Seq).bind fun rv16 =>
  whileM (ref14_Better_l2 a1 b5 rv12 rv14 rv16) (0)
-- seismonet/seismonetref14.Sub
noncomputable def ref14_Sub (r1 : Record) (from5 : Int) (to6 : Int) : Option (Record × Int) :=
  (ref14_Valid r1).bind fun rv10 =>
  (if (!rv10) = true then
    some ((⟨(⟨ByteArray.empty, ByteArray.empty, ByteArray.empty, ByteArray.empty⟩ : SourceID), 0, 0, (⟨0, 0⟩ : Rate), 0, 0, 0, ([] : List Int)⟩ : Record), 1)
  else
    (if (((decide (from5 < 0)) || (decide (to6 ≤ from5))) || (decide ((r1.Samples.length : Int) < to6))) = true then
      some ((⟨(⟨ByteArray.empty, ByteArray.empty, ByteArray.empty, ByteArray.empty⟩ : SourceID), 0, 0, (⟨0, 0⟩ : Rate), 0, 0, 0, ([] : List Int)⟩ : Record), 2)
    else
      (subM r1.Samples from5 to6).bind fun l28 =>
      (appM 8 ([] : List Int) l28).bind fun l30 =>
      some ((⟨r1.Source, r1.Start, (w64 (r1.First + from5)), r1.Rate, r1.Error, r1.Run, r1.Seq, l30⟩ : Record), 0)))
-- seismonet/seismonetref15.Compose
noncomputable def ref15_Compose_j1 (sv2521 : ((List Span) × Int)) (better2927 : (List Span)) : Option (((List Span) × Int) ⊕ (List Span)) :=
  (some (w64 (sv2521.2 + 1))).bind fun k2929 =>
  some (Sum.inl (better2927, k2929))
noncomputable def ref15_Compose_l10 (rv15 : (List Record)) (sv25 : ((List Record) × Int)) (sv2521 : ((List Span) × Int)) : Option (((List Span) × Int) ⊕ (List Span)) :=
  (if (decide (sv2521.2 < (rv15.length : Int))) = true then
    (ix rv15 sv2521.2).bind fun x2850 =>
    (ix rv15 sv25.2).bind fun x2867 =>
    (ref14_Better x2850 x2867).bind fun rv2879 =>
    (if rv2879 = true then
      (ix rv15 sv2521.2).bind fun x2933 =>
      (ref14_Span x2933).bind fun rv2945 =>
      (ref08_Union sv2521.1 ([rv2945.1] : List Span)).bind fun rv2955 =>
      ref15_Compose_j1 sv2521 rv2955
    else
      ref15_Compose_j1 sv2521 sv2521.1)
  else
    some (Sum.inr sv2521.1))
noncomputable def ref15_Compose_j4 (sv2968 : ((List Record) × Int × Int)) (out3598 : (List Record)) (first3599 : Int) : Option (((List Record) × Int × Int) ⊕ (List Record)) :=
  (some (w64 (sv2968.2.2 + 1))).bind fun j3601 =>
  some (Sum.inl (out3598, first3599, j3601))
noncomputable def ref15_Compose_j3 (rv15 : (List Record)) (sv25 : ((List Record) × Int)) (sv2968 : ((List Record) × Int × Int)) (c3499 : Bool) (first3558 : Int) : Option (((List Record) × Int × Int) ⊕ (List Record)) :=
  (if ((!c3499) && (decide (0 ≤ first3558))) = true then
    (ix rv15 sv25.2).bind fun x3605 =>
    (ref14_Sub x3605 first3558 sv2968.2.2).bind fun rv3617 =>
    (appM 144 sv2968.1 ([rv3617.1] : List Record)).bind fun l3632 =>
    ref15_Compose_j4 sv2968 l3632 (-1)
  else
    ref15_Compose_j4 sv2968 sv2968.1 first3558)
noncomputable def ref15_Compose_l11 (rv15 : (List Record)) (sv25 : ((List Record) × Int)) (e2766 : (List Span)) (sv2968 : ((List Record) × Int × Int)) : Option (((List Record) × Int × Int) ⊕ (List Record)) :=
  (ix rv15 sv25.2).bind fun x3337 =>
  (if (decide (sv2968.2.2 ≤ (x3337.Samples.length : Int))) = true then
    (ix rv15 sv25.2).bind fun x3452 =>
    (if (decide (sv2968.2.2 < (x3452.Samples.length : Int))) = true then
      (ix rv15 sv25.2).bind fun x3465 =>
      (ref14_Time x3465 sv2968.2.2).bind fun rv3477 =>
      (ix rv15 sv25.2).bind fun x3480 =>
      (ref14_Time x3480 (w64 (sv2968.2.2 + 1))).bind fun rv3492 =>
      (ref08_Cut e2766 rv3477 rv3492).bind fun rv3494 =>
      some ((rv3494.length : Int) == 0)
    else
      some false).bind fun c3499 =>
    (if (c3499 && (decide (sv2968.2.1 < 0))) = true then
      ref15_Compose_j3 rv15 sv25 sv2968 c3499 sv2968.2.2
    else
      ref15_Compose_j3 rv15 sv25 sv2968 c3499 sv2968.2.1)
  else
    some (Sum.inr sv2968.1))
noncomputable def ref15_Compose_l5 (rv15 : (List Record)) (sv25 : ((List Record) × Int)) : Option (((List Record) × Int) ⊕ (List Record)) :=
  (if (decide (sv25.2 < (rv15.length : Int))) = true then
    (whileM (ref15_Compose_l10 rv15 sv25) (([] : List Span), 0)).bind fun e2766 =>
    (whileM (ref15_Compose_l11 rv15 sv25 e2766) (sv25.1, (-1), 0)).bind fun e3330 =>
    (some (w64 (sv25.2 + 1))).bind fun i3639 =>
    some (Sum.inl (e3330, i3639))
  else
    some (Sum.inr sv25.1))
noncomputable def ref15_Compose (l1 : (List Record)) : Option ((List Record) × Int) :=
  (ref15_Valid l1).bind fun rv6 =>
  (if (!rv6) = true then
    some (([] : List Record), 1)
  else
    (ref15_order l1).bind fun rv15 =>
    (whileM (ref15_Compose_l5 rv15) (([] : List Record), 0)).bind fun e1897 =>
    (ref15_order e1897).bind fun rv3644 =>
    some (rv3644, 0))
-- seismonet/seismonetref16.asRecord
noncomputable def ref16_asRecord (s1 : Segment) : Option Record :=
  some (⟨(⟨(⟨#[65]⟩ : ByteArray), (⟨#[65]⟩ : ByteArray), ByteArray.empty, (⟨#[65, 65, 65]⟩ : ByteArray)⟩ : SourceID), s1.Start, s1.First, s1.Rate, s1.Error, 0, 0, s1.Samples⟩ : Record)
-- seismonet/seismonetref16.ValidSegment
noncomputable def ref16_ValidSegment (s1 : Segment) : Option Bool :=
  (ref16_asRecord s1).bind fun rv7 =>
  (ref14_Valid rv7).bind fun rv17 =>
  some rv17
-- seismonet/seismonetlaw16.ContinuitySegments
noncomputable def law16_ContinuitySegments_l6 (x722 : Record) (sv738 : ((List Int) × (List Int) × Int)) : Option (((List Int) × (List Int) × Int) ⊕ ((List Int) × (List Int))) :=
  (if (decide (sv738.2.2 < (x722.Samples.length : Int))) = true then
    (ix x722.Samples sv738.2.2).bind fun x907 =>
    (ref14_At x722 sv738.2.2).bind fun rv919 =>
    (appM 8 sv738.1 ([x907] : List Int)).bind fun l928 =>
    (appM 8 sv738.2.1 ([rv919.1] : List Int)).bind fun l935 =>
    some (Sum.inl (l928, l935, (w64 (sv738.2.2 + 1))))
  else
    some (Sum.inr (sv738.1, sv738.2.1)))
noncomputable def law16_ContinuitySegments_l3 (rv80 : ((List Record) × Int)) (sv93 : ((List Int) × (List Int) × Int)) : Option (((List Int) × (List Int) × Int) ⊕ ((List Int) × (List Int))) :=
  (if (decide (sv93.2.2 < (rv80.1.length : Int))) = true then
    (ix rv80.1 sv93.2.2).bind fun x722 =>
    (whileM (law16_ContinuitySegments_l6 x722) (sv93.1, sv93.2.1, 0)).bind fun e861 =>
    some (Sum.inl (e861.1, e861.2, (w64 (sv93.2.2 + 1))))
  else
    some (Sum.inr (sv93.1, sv93.2.1)))
noncomputable def law16_ContinuitySegments_j3 (sv2291 : (Int × Int)) (sv4460 : (Int × Int)) : Option ((Int × Int) ⊕ Bool) :=
  some (Sum.inl (sv4460.1, (w64 (sv2291.2 + 1))))
noncomputable def law16_ContinuitySegments_l17 (rv57 : (Int × Dice)) (rv68 : ((List Segment) × Int)) (e561 : ((List Int) × (List Int))) (sv2291 : (Int × Int)) (x4093 : Segment) (sv4460 : (Int × Int)) : Option ((Int × Int) ⊕ ((Int × Int) ⊕ Bool)) :=
  (if (decide (sv4460.2 < (x4093.Samples.length : Int))) = true then
    (ix x4093.Samples sv4460.2).bind fun x4918 =>
    (ref02_Time x4093.Start x4093.Rate (w64 (x4093.First + sv4460.2))).bind fun rv4930 =>
    ((if ((rv4930.2 != 0) || (decide ((e561.1.length : Int) ≤ sv4460.1))) = true then
      some true
    else
      (ix e561.1 sv4460.1).bind fun x4955 =>
      some (x4918 != x4955))).bind fun c4951 =>
    ((if c4951 = true then
      some true
    else
      (ix e561.2 sv4460.1).bind fun x4984 =>
      some (decide (rv4930.1 < (w64 ((w64 (x4984 - rv57.1)) - 1)))))).bind fun c4980 =>
    ((if c4980 = true then
      some true
    else
      (ix e561.2 sv4460.1).bind fun x5013 =>
      some (decide ((w64 ((w64 (x5013 + rv57.1)) + 1)) < rv4930.1)))).bind fun c5009 =>
    (if c5009 = true then
      some (Sum.inr (Sum.inr false))
    else
      (some (w64 (sv4460.1 + 1))).bind fun k5029 =>
      some (Sum.inl (k5029, (w64 (sv4460.2 + 1)))))
  else
    Option.map Sum.inr ((if ((decide (0 < sv2291.2)) && (rv57.1 == 0)) = true then
      (ix rv68.1 (w64 (sv2291.2 - 1))).bind fun x5032 =>
      some ((x5032.Rate.Num == x4093.Rate.Num) && ((x5032.Rate.Den == x4093.Rate.Den) && true))
    else
      some false).bind fun c5043 =>
    (if c5043 = true then
      (ix rv68.1 (w64 (sv2291.2 - 1))).bind fun x5129 =>
      (ix rv68.1 (w64 (sv2291.2 - 1))).bind fun x5142 =>
      (ix rv68.1 (w64 (sv2291.2 - 1))).bind fun x5155 =>
      (ix rv68.1 (w64 (sv2291.2 - 1))).bind fun x5168 =>
      (ref02_Time x5129.Start x5142.Rate (w64 (x5155.First + (x5168.Samples.length : Int)))).bind fun rv5180 =>
      (ref02_Time x4093.Start x4093.Rate x4093.First).bind fun rv5188 =>
      (if (rv5180.1 == rv5188.1) = true then
        some (Sum.inr false)
      else
        law16_ContinuitySegments_j3 sv2291 sv4460)
    else
      law16_ContinuitySegments_j3 sv2291 sv4460)))
noncomputable def law16_ContinuitySegments_l13 (rv57 : (Int × Dice)) (rv68 : ((List Segment) × Int)) (e561 : ((List Int) × (List Int))) (sv2291 : (Int × Int)) : Option ((Int × Int) ⊕ Bool) :=
  (if (decide (sv2291.2 < (rv68.1.length : Int))) = true then
    (ix rv68.1 sv2291.2).bind fun x4093 =>
    (ref16_ValidSegment x4093).bind fun rv4110 =>
    (if (!rv4110) = true then
      some (Sum.inr false)
    else
      whileM (law16_ContinuitySegments_l17 rv57 rv68 e561 sv2291 x4093) (sv2291.1, 0))
  else
    Option.map Sum.inr (((if (sv2291.1 == (e561.1.length : Int)) = true then
      (law16_sane).bind fun rv5210 =>
      some rv5210
    else
      some false)).bind fun c5207 =>
    some c5207))
noncomputable def law16_ContinuitySegments (t1 : (List Int)) (n5 : Int) : Option Bool :=
  (made_Light t1).bind fun rv7 =>
  (if (!rv7) = true then
    (law16_sane).bind fun rv23 =>
    some rv23
  else
    (made_Roll t1).bind fun rv30 =>
    (made_Dice_Records rv30 6).bind fun rv41 =>
    (made_Dice_Pick rv41.2 ([0, 0, 100000, 500000, (w64 n5)] : List Int)).bind fun rv57 =>
    (continuity_Segments rv41.1 rv57.1).bind fun rv68 =>
    (ref15_Compose rv41.1).bind fun rv80 =>
    (if ((rv68.2 != 0) || (rv80.2 != 0)) = true then
      some false
    else
      (whileM (law16_ContinuitySegments_l3 rv80) (([] : List Int), ([] : List Int), 0)).bind fun e561 =>
      whileM (law16_ContinuitySegments_l13 rv57 rv68 e561) (0, 0)))
-- (*seismonet/seismonetmade.Dice).Grid
noncomputable def made_Dice_Grid_l1 (n6 : Int) (sv32 : ((List Int) × Int × (List Int) × Int)) : Option (((List Int) × Int × (List Int) × Int) ⊕ ((List Int) × Int × (List Int))) :=
  (made_Dice_Next (⟨sv32.1, sv32.2.1⟩ : Dice) (w64 (n6 + 1))).bind fun rv134 =>
  (if (decide (sv32.2.2.2 < (w64 (n6 + rv134.1)))) = true then
    (made_Dice_Next rv134.2 9).bind fun rv159 =>
    (appM 8 sv32.2.2.1 ([(w64 (rv159.1 - 4))] : List Int)).bind fun l166 =>
    (some (w64 (sv32.2.2.2 + 1))).bind fun i182 =>
    some (Sum.inl (rv159.2.L, rv159.2.At, l166, i182))
  else
    some (Sum.inr (rv134.2.L, rv134.2.At, sv32.2.2.1)))
noncomputable def made_Dice_Grid_l2 (rv9 : (SourceID × Dice)) (rv21 : (Int × Dice)) (e126 : ((List Int) × Int × (List Int))) (sv184 : ((List Int) × Int × (List Record) × Int)) : Option (((List Int) × Int × (List Record) × Int) ⊕ ((List Int) × Int × (List Record))) :=
  (if (decide (sv184.2.2.2 < (e126.2.2.length : Int))) = true then
    (made_Dice_Next (⟨sv184.1, sv184.2.1⟩ : Dice) 9).bind fun rv327 =>
    (some (min (w64 ((w64 (sv184.2.2.2 + 1)) + rv327.1)) (e126.2.2.length : Int))).bind fun to332 =>
    (ref14_Sub (⟨rv9.1, 1000000000000, 0, (⟨rv21.1, 1⟩ : Rate), 0, 0, 0, e126.2.2⟩ : Record) sv184.2.2.2 to332).bind fun rv340 =>
    (appM 144 sv184.2.2.1 ([(⟨rv340.1.Source, rv340.1.Start, rv340.1.First, rv340.1.Rate, rv340.1.Error, rv340.1.Run, (sv184.2.2.1.length : Int), rv340.1.Samples⟩ : Record)] : List Record)).bind fun l355 =>
    some (Sum.inl (rv327.2.L, rv327.2.At, l355, to332))
  else
    some (Sum.inr (sv184.1, sv184.2.1, sv184.2.2.1)))
noncomputable def made_Dice_Grid (d1 : Dice) (n6 : Int) : Option (Record × (List Record) × Dice) :=
  (made_Dice_Source d1).bind fun rv9 =>
  (made_Dice_Pick rv9.2 ([1, 2, 4] : List Int)).bind fun rv21 =>
  (whileM (made_Dice_Grid_l1 n6) (rv21.2.L, rv21.2.At, ([] : List Int), 0)).bind fun e126 =>
  (whileM (made_Dice_Grid_l2 rv9 rv21 e126) (e126.1, e126.2.1, ([] : List Record), 0)).bind fun e289 =>
  some ((⟨rv9.1, 1000000000000, 0, (⟨rv21.1, 1⟩ : Rate), 0, 0, 0, e126.2.2⟩ : Record), e289.2.2, (⟨e289.1, e289.2.1⟩ : Dice))
-- seismonet/seismonetref05.Same
noncomputable def ref05_Same_l2 (a1 : (List Int)) (b5 : (List Int)) (sv109 : Int) : Option (Int ⊕ Bool) :=
  (if (decide (sv109 < (a1.length : Int))) = true then
    (ix a1 sv109).bind fun x241 =>
    (ix b5 sv109).bind fun x254 =>
    (if (x241 != x254) = true then
      some (Sum.inr false)
    else
      (some (w64 (sv109 + 1))).bind fun i270 =>
      some (Sum.inl i270))
  else
    Option.map Sum.inr (some true))
noncomputable def ref05_Same (a1 : (List Int)) (b5 : (List Int)) : Option Bool :=
  (if ((a1.length : Int) != (b5.length : Int)) = true then
    some false
  else
    whileM (ref05_Same_l2 a1 b5) (0))
-- seismonet/seismonetref16.SameSegments
noncomputable def ref16_SameSegments_l2 (a1 : (List Segment)) (b5 : (List Segment)) (sv439 : Int) : Option (Int ⊕ Bool) :=
  (if (decide (sv439 < (a1.length : Int))) = true then
    (ix a1 sv439).bind fun x1011 =>
    (ix b5 sv439).bind fun x1028 =>
    (if (x1011.Start != x1028.Start) = true then
      some true
    else
      (ix a1 sv439).bind fun x1045 =>
      (ix b5 sv439).bind fun x1057 =>
      some (x1045.First != x1057.First)).bind fun c1067 =>
    (if c1067 = true then
      some true
    else
      (ix a1 sv439).bind fun x1070 =>
      (ix b5 sv439).bind fun x1082 =>
      some (!((x1070.Rate.Num == x1082.Rate.Num) && ((x1070.Rate.Den == x1082.Rate.Den) && true)))).bind fun c1092 =>
    (if c1092 = true then
      some true
    else
      (ix a1 sv439).bind fun x1095 =>
      (ix b5 sv439).bind fun x1107 =>
      some (x1095.Error != x1107.Error)).bind fun c1117 =>
    (if c1117 = true then
      some true
    else
      (ix a1 sv439).bind fun x1120 =>
      (ix b5 sv439).bind fun x1132 =>
      (ref05_Same x1120.Samples x1132.Samples).bind fun rv1143 =>
      some (!rv1143)).bind fun c1144 =>
    (if c1144 = true then
      some (Sum.inr false)
    else
      (some (w64 (sv439 + 1))).bind fun i1277 =>
      some (Sum.inl i1277))
  else
    Option.map Sum.inr (some true))
noncomputable def ref16_SameSegments (a1 : (List Segment)) (b5 : (List Segment)) : Option Bool :=
  (if ((a1.length : Int) != (b5.length : Int)) = true then
    some false
  else
    whileM (ref16_SameSegments_l2 a1 b5) (0))
-- seismonet/seismonetlaw16.ContinuityGrid
noncomputable def law16_ContinuityGrid_j1 (sv59 : ((List Int) × Int × (List Record) × Int)) (x460 : (List Int)) (x461 : Int) (mixed462 : (List Record)) : Option (((List Int) × Int × (List Record) × Int) ⊕ ((List Int) × Int × (List Record))) :=
  (some (w64 (sv59.2.2.2 - 1))).bind fun i464 =>
  some (Sum.inl (x460, x461, mixed462, i464))
noncomputable def law16_ContinuityGrid_l1 (rv40 : (Record × (List Record) × Dice)) (sv59 : ((List Int) × Int × (List Record) × Int)) : Option (((List Int) × Int × (List Record) × Int) ⊕ ((List Int) × Int × (List Record))) :=
  (if (decide (0 ≤ sv59.2.2.2)) = true then
    (ix rv40.2.1 sv59.2.2.2).bind fun x391 =>
    (appM 144 sv59.2.2.1 ([x391] : List Record)).bind fun l409 =>
    (made_Dice_Next (⟨sv59.1, sv59.2.1⟩ : Dice) 3).bind fun rv414 =>
    (if (rv414.1 == 0) = true then
      (made_Dice_Next rv414.2 (rv40.2.1.length : Int)).bind fun rv467 =>
      (ix rv40.2.1 rv467.1).bind fun x478 =>
      (appM 144 l409 ([x478] : List Record)).bind fun l492 =>
      law16_ContinuityGrid_j1 sv59 rv467.2.L rv467.2.At l492
    else
      law16_ContinuityGrid_j1 sv59 rv414.2.L rv414.2.At l409)
  else
    some (Sum.inr (sv59.1, sv59.2.1, sv59.2.2.1)))
noncomputable def law16_ContinuityGrid_j4 (rv40 : (Record × (List Record) × Dice)) (rv554 : (Int × Dice)) (rv588 : ((List Span) × Int)) (rv600 : ((List Segment) × Int)) (n616 : Int) : Option Bool :=
  (ix rv40.2.1 rv554.1).bind fun x619 =>
  (ref14_Span x619).bind fun rv635 =>
  ((if ((rv588.2 == 0) && (rv600.2 == 0)) = true then
    (ref08_Same rv588.1 ([rv635.1] : List Span)).bind fun rv658 =>
    some rv658
  else
    some false)).bind fun c653 =>
  ((if (c653 && ((rv600.1.length : Int) == n616)) = true then
    (law16_sane).bind fun rv676 =>
    some rv676
  else
    some false)).bind fun c673 =>
  some c673
noncomputable def law16_ContinuityGrid_j3 (rv40 : (Record × (List Record) × Dice)) (rv554 : (Int × Dice)) (rv588 : ((List Span) × Int)) (rv600 : ((List Segment) × Int)) (n613 : Int) : Option Bool :=
  (if ((rv40.2.1.length : Int) == 1) = true then
    law16_ContinuityGrid_j4 rv40 rv554 rv588 rv600 0
  else
    law16_ContinuityGrid_j4 rv40 rv554 rv588 rv600 n613)
noncomputable def law16_ContinuityGrid (t1 : (List Int)) : Option Bool :=
  (made_Light t1).bind fun rv6 =>
  (if (!rv6) = true then
    (law16_sane).bind fun rv22 =>
    some rv22
  else
    (made_Roll t1).bind fun rv29 =>
    (made_Dice_Grid rv29 12).bind fun rv40 =>
    (some (w64 ((rv40.2.1.length : Int) - 1))).bind fun i58 =>
    (whileM (law16_ContinuityGrid_l1 rv40) (rv40.2.2.L, rv40.2.2.At, ([] : List Record), i58)).bind fun e306 =>
    (ref14_Span rv40.1).bind fun rv498 =>
    (continuity_Segments e306.2.2 0).bind fun rv506 =>
    (continuity_Gaps e306.2.2 rv498.1.From rv498.1.To).bind fun rv518 =>
    ((if (((rv506.2 != 0) || (rv518.2 != 0)) || ((rv518.1.length : Int) != 0)) = true then
      some true
    else
      (ref16_SameSegments rv506.1 ([(⟨rv40.1.Start, 0, rv40.1.Rate, 0, rv40.1.Samples⟩ : Segment)] : List Segment)).bind fun rv545 =>
      some (!rv545))).bind fun c540 =>
    (if c540 = true then
      some false
    else
      (made_Dice_Next (⟨e306.1, e306.2.1⟩ : Dice) (rv40.2.1.length : Int)).bind fun rv554 =>
      (subM rv40.2.1 0 rv554.1).bind fun l569 =>
      (appM 144 ([] : List Record) l569).bind fun l571 =>
      (subM rv40.2.1 (w64 (rv554.1 + 1)) (rv40.2.1.length : Int)).bind fun l580 =>
      (appM 144 l571 l580).bind fun l582 =>
      (continuity_Gaps l582 rv498.1.From rv498.1.To).bind fun rv588 =>
      (continuity_Segments l582 0).bind fun rv600 =>
      (if ((rv554.1 == 0) || (rv554.1 == (w64 ((rv40.2.1.length : Int) - 1)))) = true then
        law16_ContinuityGrid_j3 rv40 rv554 rv588 rv600 1
      else
        law16_ContinuityGrid_j3 rv40 rv554 rv588 rv600 2)))
-- slices.IndexFunc[[]seismonet/api.Segment,seismonet/api.Segment]
noncomputable def slices_IndexFunc_Lapi_Segment_api_Segment_l2 (s1 : (List Segment)) (f5 : Segment → Option Bool) (sv90 : Int) : Option (Int ⊕ Int) :=
  (if (decide (sv90 < (s1.length : Int))) = true then
    (ix s1 sv90).bind fun x200 =>
    (f5 x200).bind fun rv216 =>
    (if rv216 = true then
      some (Sum.inr sv90)
    else
      some (Sum.inl (w64 (sv90 + 1))))
  else
    Option.map Sum.inr (some (-1)))
noncomputable def slices_IndexFunc_Lapi_Segment_api_Segment (s1 : (List Segment)) (f5 : Segment → Option Bool) : Option Int :=
  whileM (slices_IndexFunc_Lapi_Segment_api_Segment_l2 s1 f5) (0)
-- slices.ContainsFunc[[]seismonet/api.Segment,seismonet/api.Segment]
noncomputable def slices_ContainsFunc_Lapi_Segment_api_Segment (s1 : (List Segment)) (f5 : Segment → Option Bool) : Option Bool :=
  (slices_IndexFunc_Lapi_Segment_api_Segment s1 f5).bind fun rv11 =>
  some (decide (0 ≤ rv11))
-- seismonet/continuity.Window$1
noncomputable def continuity_Window_fn1 (s1 : Segment) : Option Bool :=
  (continuity_ValidSegment s1).bind fun rv7 =>
  some (!rv7)
-- sort.Search
noncomputable def sort_Search_j1 (i98 : Int) (j99 : Int) : Option ((Int × Int) ⊕ Int) :=
  some (Sum.inl (i98, j99))
noncomputable def sort_Search_l1 (f2 : Int → Option Bool) (sv7 : (Int × Int)) : Option ((Int × Int) ⊕ Int) :=
  (if (decide (sv7.1 < sv7.2)) = true then
    (shrM .u64 (IntKind.u64.wrap (w64 (sv7.1 + sv7.2))) 1).bind fun shr85 =>
    (some (w64 shr85)).bind fun h87 =>
    (f2 h87).bind fun rv89 =>
    (if (!rv89) = true then
      (some (w64 (h87 + 1))).bind fun i102 =>
      sort_Search_j1 i102 sv7.2
    else
      sort_Search_j1 sv7.1 h87)
  else
    some (Sum.inr sv7.1))
noncomputable def sort_Search (n1 : Int) (f2 : Int → Option Bool) : Option Int :=
  (whileM (sort_Search_l1 f2) (0, n1)).bind fun e64 =>
  some e64
-- seismonet/record.Inside$1
noncomputable def record_Inside_fn1 (i1 : Int) (x2 : Record) (x8 : Int) : Option Bool :=
  (record_time x2 (w64 (i1 + 1))).bind fun rv12 =>
  some (decide (x8 < rv12))
-- seismonet/record.first$1
noncomputable def record_first_fn1 (i1 : Int) (x2 : Record) (x8 : Int) (x11 : Int) : Option Bool :=
  (record_time x2 (w64 (i1 + x8))).bind fun rv15 =>
  some (decide (x11 ≤ rv15))
-- seismonet/record.first
noncomputable def record_first (r1 : Record) (offset5 : Int) (t6 : Int) : Option Int :=
  (sort_Search (r1.Samples.length : Int) (fun y0 => record_first_fn1 y0 r1 offset5 t6)).bind fun rv11 =>
  some rv11
-- seismonet/record.part
noncomputable def record_part (r1 : Record) (from5 : Int) (to6 : Int) : Option (Record × Bool × Int) :=
  (if (decide (to6 ≤ from5)) = true then
    some ((⟨(⟨ByteArray.empty, ByteArray.empty, ByteArray.empty, ByteArray.empty⟩ : SourceID), 0, 0, (⟨0, 0⟩ : Rate), 0, 0, 0, ([] : List Int)⟩ : Record), false, 0)
  else
    (record_sub r1 from5 to6).bind fun rv12 =>
    some (rv12, true, 0))
-- seismonet/record.Inside
noncomputable def record_Inside (r1 : Record) (from5 : Int) (to6 : Int) : Option (Record × Bool × Int) :=
  (record_Valid r1).bind fun rv11 =>
  (if (!rv11) = true then
    some ((⟨(⟨ByteArray.empty, ByteArray.empty, ByteArray.empty, ByteArray.empty⟩ : SourceID), 0, 0, (⟨0, 0⟩ : Rate), 0, 0, 0, ([] : List Int)⟩ : Record), false, 1)
  else
    (sort_Search (r1.Samples.length : Int) (fun y0 => record_Inside_fn1 y0 r1 to6)).bind fun rv20 =>
    (record_first r1 0 from5).bind fun rv27 =>
    (record_part r1 rv27 rv20).bind fun rv29 =>
    some (rv29.1, rv29.2.1, rv29.2.2))
-- seismonet/continuity.Window
noncomputable def continuity_Window_j1 (sv25 : ((List Segment) × Int)) (out321 : (List Segment)) : Option (((List Segment) × Int) ⊕ (List Segment)) :=
  some (Sum.inl (out321, (w64 (sv25.2 + 1))))
noncomputable def continuity_Window_l1 (l1 : (List Segment)) (from5 : Int) (to6 : Int) (sv25 : ((List Segment) × Int)) : Option (((List Segment) × Int) ⊕ (List Segment)) :=
  (if (decide (sv25.2 < (l1.length : Int))) = true then
    (ix l1 sv25.2).bind fun x269 =>
    (continuity_body x269).bind fun rv286 =>
    (record_Inside rv286 from5 to6).bind fun rv296 =>
    (if rv296.2.1 = true then
      (appM 64 sv25.1 ([(⟨x269.Start, rv296.1.First, x269.Rate, x269.Error, rv296.1.Samples⟩ : Segment)] : List Segment)).bind fun l328 =>
      continuity_Window_j1 sv25 l328
    else
      continuity_Window_j1 sv25 sv25.1)
  else
    some (Sum.inr sv25.1))
noncomputable def continuity_Window (l1 : (List Segment)) (from5 : Int) (to6 : Int) : Option ((List Segment) × Int) :=
  (slices_ContainsFunc_Lapi_Segment_api_Segment l1 continuity_Window_fn1).bind fun rv8 =>
  (if rv8 = true then
    some (([] : List Segment), 1)
  else
    (continuity_window from5 to6).bind fun rv17 =>
    (if (!rv17) = true then
      some (([] : List Segment), 2)
    else
      (whileM (continuity_Window_l1 l1 from5 to6) (([] : List Segment), 0)).bind fun e205 =>
      some (e205, 0)))
-- seismonet/seismonetlaw16.ContinuityWindows$1
noncomputable def law16_ContinuityWindows_fn1_l1 (l1 : (List Segment)) (sv5 : (Int × Int)) : Option ((Int × Int) ⊕ Int) :=
  (if (decide (sv5.2 < (l1.length : Int))) = true then
    (ix l1 sv5.2).bind fun x100 =>
    (some (w64 (sv5.1 + (x100.Samples.length : Int)))).bind fun k117 =>
    some (Sum.inl (k117, (w64 (sv5.2 + 1))))
  else
    some (Sum.inr sv5.1))
noncomputable def law16_ContinuityWindows_fn1 (l1 : (List Segment)) : Option Int :=
  (whileM (law16_ContinuityWindows_fn1_l1 l1) (0, 0)).bind fun e74 =>
  some e74
-- seismonet/seismonetlaw16.ContinuityWindows
noncomputable def law16_ContinuityWindows_j1 (sv192 : (Int × Int)) (crossing314 : Int) : Option ((Int × Int) ⊕ Int) :=
  some (Sum.inl (crossing314, (w64 (sv192.2 + 1))))
noncomputable def law16_ContinuityWindows_l1 (rv41 : (Record × (List Record) × Dice)) (fromv89 : Int) (to91 : Int) (mid122 : Int) (sv192 : (Int × Int)) : Option ((Int × Int) ⊕ Int) :=
  (if (decide (sv192.2 < (rv41.1.Samples.length : Int))) = true then
    (ref14_At rv41.1 sv192.2).bind fun rv294 =>
    (ref14_At rv41.1 (w64 (sv192.2 + 1))).bind fun rv301 =>
    (if ((((decide (fromv89 ≤ rv294.1)) && (decide (rv301.1 ≤ to91))) && (decide (rv294.1 < mid122))) && (decide (mid122 < rv301.1))) = true then
      (some (w64 (sv192.1 + 1))).bind fun crossing317 =>
      law16_ContinuityWindows_j1 sv192 crossing317
    else
      law16_ContinuityWindows_j1 sv192 sv192.1)
  else
    some (Sum.inr sv192.1))
noncomputable def law16_ContinuityWindows (t1 : (List Int)) (n5 : Int) : Option Bool :=
  (made_Light t1).bind fun rv7 =>
  (if (!rv7) = true then
    (law16_sane).bind fun rv23 =>
    some rv23
  else
    (made_Roll t1).bind fun rv30 =>
    (made_Dice_Grid rv30 10).bind fun rv41 =>
    (continuity_Segments rv41.2.1 0).bind fun rv59 =>
    (ref14_Span rv41.1).bind fun rv71 =>
    (made_Dice_Next rv41.2.2 3).bind fun rv79 =>
    (made_Dice_Next rv79.2 3).bind fun rv84 =>
    (some (w64 (rv71.1.From + (w64 (rv79.1 * 500000))))).bind fun fromv89 =>
    (some (w64 (rv71.1.To - (w64 (rv84.1 * 500000))))).bind fun to91 =>
    (if (decide (to91 < fromv89)) = true then
      (law16_sane).bind fun rv113 =>
      some rv113
    else
      (remM (w64 ((w64 n5) * 250000)) (w64 ((w64 (to91 - fromv89)) + 1))).bind fun rem120 =>
      (some (w64 (fromv89 + rem120))).bind fun mid122 =>
      (continuity_Window rv59.1 fromv89 to91).bind fun rv124 =>
      (continuity_Window rv59.1 fromv89 mid122).bind fun rv136 =>
      (continuity_Window rv59.1 mid122 to91).bind fun rv147 =>
      (continuity_Window rv124.1 fromv89 mid122).bind fun rv158 =>
      ((if (((((rv59.2 != 0) || (rv124.2 != 0)) || (rv136.2 != 0)) || (rv147.2 != 0)) || (rv158.2 != 0)) = true then
        some true
      else
        (ref16_SameSegments rv158.1 rv136.1).bind fun rv184 =>
        some (!rv184))).bind fun c181 =>
      (if c181 = true then
        some false
      else
        (whileM (law16_ContinuityWindows_l1 rv41 fromv89 to91 mid122) (0, 0)).bind fun e267 =>
        (law16_ContinuityWindows_fn1 rv124.1).bind fun rv320 =>
        (law16_ContinuityWindows_fn1 rv136.1).bind fun rv327 =>
        (law16_ContinuityWindows_fn1 rv147.1).bind fun rv334 =>
        ((if (rv320 == (w64 ((w64 (rv327 + rv334)) + e267))) = true then
          (law16_sane).bind fun rv351 =>
          some rv351
        else
          some false)).bind fun c348 =>
        some c348)))
-- (*seismonet/seismonetmade.Dice).OddRecord
noncomputable def made_Dice_OddRecord_j1 (r6 : Record) (x438 : (List Int)) (x439 : Int) (x440 : ByteArray) (x441 : Int) (x442 : Int) (x443 : Int) (x444 : Int) (x445 : Int) (x446 : Int) (x447 : Int) (x448 : (List Int)) : Option (Record × Dice) :=
  some ((⟨(⟨r6.Source.Network, x440, r6.Source.Location, r6.Source.Channel⟩ : SourceID), x441, x442, (⟨x443, x444⟩ : Rate), x445, x446, x447, x448⟩ : Record), (⟨x438, x439⟩ : Dice))
noncomputable def made_Dice_OddRecord_j2 (r6 : Record) (x633 : (List Int)) (x634 : Int) (x635 : Int) (x636 : Int) (x637 : Int) (x638 : Int) (x639 : Int) (x640 : Int) (x641 : Int) (x642 : (List Int)) : Option (Record × Dice) :=
  made_Dice_OddRecord_j1 r6 x633 x634 r6.Source.Station x635 x636 x637 x638 x639 x640 x641 x642
noncomputable def made_Dice_OddRecord_j3 (r6 : Record) (x811 : (List Int)) (x812 : Int) (x813 : Int) (x814 : Int) (x815 : Int) (x816 : Int) (x817 : Int) (x818 : Int) (x819 : (List Int)) : Option (Record × Dice) :=
  made_Dice_OddRecord_j2 r6 x811 x812 r6.Start x813 x814 x815 x816 x817 x818 x819
noncomputable def made_Dice_OddRecord_j4 (r6 : Record) (x960 : (List Int)) (x961 : Int) (x962 : Int) (x963 : Int) (x964 : Int) (x965 : Int) (x966 : Int) (x967 : (List Int)) : Option (Record × Dice) :=
  made_Dice_OddRecord_j3 r6 x960 x961 r6.First x962 x963 x964 x965 x966 x967
noncomputable def made_Dice_OddRecord_j5 (r6 : Record) (x1082 : (List Int)) (x1083 : Int) (x1084 : Int) (x1085 : Int) (x1086 : Int) (x1087 : (List Int)) : Option (Record × Dice) :=
  made_Dice_OddRecord_j4 r6 x1082 x1083 r6.Rate.Num r6.Rate.Den x1084 x1085 x1086 x1087
noncomputable def made_Dice_OddRecord_j6 (r6 : Record) (x1177 : (List Int)) (x1178 : Int) (x1179 : Int) (x1180 : Int) (x1181 : (List Int)) : Option (Record × Dice) :=
  made_Dice_OddRecord_j5 r6 x1177 x1178 r6.Error x1179 x1180 x1181
noncomputable def made_Dice_OddRecord_j7 (r6 : Record) (x1247 : (List Int)) (x1248 : Int) (x1249 : Int) (x1250 : (List Int)) : Option (Record × Dice) :=
  made_Dice_OddRecord_j6 r6 x1247 x1248 r6.Run x1249 x1250
noncomputable def made_Dice_OddRecord_j8 (r6 : Record) (x1293 : (List Int)) (x1294 : Int) (x1295 : (List Int)) : Option (Record × Dice) :=
  made_Dice_OddRecord_j7 r6 x1293 x1294 r6.Seq x1295
noncomputable def made_Dice_OddRecord_j9 (r6 : Record) (rv18 : (Int × Dice)) (x1335 : (List Int)) : Option (Record × Dice) :=
  made_Dice_OddRecord_j8 r6 rv18.2.L rv18.2.At x1335
noncomputable def made_Dice_OddRecord (d1 : Dice) (r6 : Record) : Option (Record × Dice) :=
  (appM 8 ([] : List Int) r6.Samples).bind fun l13 =>
  (made_Dice_Next d1 10).bind fun rv18 =>
  (if (rv18.1 == 0) = true then
    made_Dice_OddRecord_j1 r6 rv18.2.L rv18.2.At (⟨#[]⟩ : ByteArray) r6.Start r6.First r6.Rate.Num r6.Rate.Den r6.Error r6.Run r6.Seq l13
  else
    (if (rv18.1 == 1) = true then
      (made_Dice_Pick rv18.2 ([(-1), 0, 9007199254740992, 9007199254740993] : List Int)).bind fun rv647 =>
      made_Dice_OddRecord_j2 r6 rv647.2.L rv647.2.At rv647.1 r6.First r6.Rate.Num r6.Rate.Den r6.Error r6.Run r6.Seq l13
    else
      (if (rv18.1 == 2) = true then
        (made_Dice_Pick rv18.2 ([(-1), 16777213, 16777216] : List Int)).bind fun rv824 =>
        made_Dice_OddRecord_j3 r6 rv824.2.L rv824.2.At rv824.1 r6.Rate.Num r6.Rate.Den r6.Error r6.Run r6.Seq l13
      else
        (if (rv18.1 == 3) = true then
          (made_Dice_Pick rv18.2 ([0, 2, 4097] : List Int)).bind fun rv972 =>
          made_Dice_OddRecord_j4 r6 rv972.2.L rv972.2.At rv972.1 2 r6.Error r6.Run r6.Seq l13
        else
          (if (rv18.1 == 4) = true then
            (made_Dice_Pick rv18.2 ([(-1), 1099511627776, 1099511627777] : List Int)).bind fun rv1092 =>
            made_Dice_OddRecord_j5 r6 rv1092.2.L rv1092.2.At rv1092.1 r6.Run r6.Seq l13
          else
            (if (rv18.1 == 5) = true then
              (made_Dice_Pick rv18.2 ([(-1), 65535, 65536] : List Int)).bind fun rv1186 =>
              made_Dice_OddRecord_j6 r6 rv1186.2.L rv1186.2.At rv1186.1 r6.Seq l13
            else
              (if (rv18.1 == 6) = true then
                (made_Dice_Pick rv18.2 ([(-1), 1073741824, 1073741825] : List Int)).bind fun rv1255 =>
                made_Dice_OddRecord_j7 r6 rv1255.2.L rv1255.2.At rv1255.1 l13
              else
                (if (rv18.1 == 7) = true then
                  (made_Dice_Pick rv18.2 ([1073741823, 1073741824, (-1073741824)] : List Int)).bind fun rv1300 =>
                  (appM 8 l13 ([rv1300.1] : List Int)).bind fun l1307 =>
                  made_Dice_OddRecord_j8 r6 rv1300.2.L rv1300.2.At l1307
                else
                  (if (rv18.1 == 8) = true then
                    made_Dice_OddRecord_j9 r6 rv18 ([] : List Int)
                  else
                    made_Dice_OddRecord_j9 r6 rv18 l13)))))))))
-- seismonet/seismonetref16.window
noncomputable def ref16_window (l1 : (List Record)) (from5 : Int) (to6 : Int) : Option Int :=
  (ref15_Valid l1).bind fun rv8 =>
  (if (!rv8) = true then
    some 1
  else
    (if (((decide (from5 < 0)) || (decide (to6 < from5))) || (decide (9007199254740992 < to6))) = true then
      some 2
    else
      some 0))
-- seismonet/seismonetref08.Minus
noncomputable def ref08_Minus_j1 (sv1336 : ((List Span) × Int × Int)) (out1690 : (List Span)) (fromv1691 : Int) : Option (((List Span) × Int × Int) ⊕ ((List Span) × Int)) :=
  (some (w64 (sv1336.2.2 + 1))).bind fun k1693 =>
  some (Sum.inl (out1690, fromv1691, k1693))
noncomputable def ref08_Minus_j2 (rv21 : (List Span)) (sv1336 : ((List Span) × Int × Int)) (out1780 : (List Span)) : Option (((List Span) × Int × Int) ⊕ ((List Span) × Int)) :=
  (ix rv21 sv1336.2.2).bind fun x1783 =>
  (some (max sv1336.2.1 x1783.To)).bind fun fromv1791 =>
  ref08_Minus_j1 sv1336 out1780 fromv1791
noncomputable def ref08_Minus_l6 (rv10 : (List Span)) (rv21 : (List Span)) (sv31 : ((List Span) × Int)) (sv1336 : ((List Span) × Int × Int)) : Option (((List Span) × Int × Int) ⊕ ((List Span) × Int)) :=
  (if (decide (sv1336.2.2 < (rv21.length : Int))) = true then
    (ix rv21 sv1336.2.2).bind fun x1696 =>
    (if (decide (x1696.To ≤ sv1336.2.1)) = true then
      some true
    else
      (ix rv21 sv1336.2.2).bind fun x1709 =>
      (ix rv10 sv31.2).bind fun x1718 =>
      some (decide (x1718.To ≤ x1709.From))).bind fun c1725 =>
    (if c1725 = true then
      ref08_Minus_j1 sv1336 sv1336.1 sv1336.2.1
    else
      (ix rv21 sv1336.2.2).bind fun x1752 =>
      (if (decide (sv1336.2.1 < x1752.From)) = true then
        (ix rv21 sv1336.2.2).bind fun x1795 =>
        (appM 16 sv1336.1 ([(⟨sv1336.2.1, x1795.From⟩ : Span)] : List Span)).bind fun l1805 =>
        ref08_Minus_j2 rv21 sv1336 l1805
      else
        ref08_Minus_j2 rv21 sv1336 sv1336.1))
  else
    some (Sum.inr (sv1336.1, sv1336.2.1)))
noncomputable def ref08_Minus_j4 (sv31 : ((List Span) × Int)) (out1840 : (List Span)) : Option (((List Span) × Int) ⊕ (List Span)) :=
  (some (w64 (sv31.2 + 1))).bind fun i1842 =>
  some (Sum.inl (out1840, i1842))
noncomputable def ref08_Minus_l3 (rv10 : (List Span)) (rv21 : (List Span)) (sv31 : ((List Span) × Int)) : Option (((List Span) × Int) ⊕ (List Span)) :=
  (if (decide (sv31.2 < (rv10.length : Int))) = true then
    (ix rv10 sv31.2).bind fun x1325 =>
    (whileM (ref08_Minus_l6 rv10 rv21 sv31) (sv31.1, x1325.From, 0)).bind fun e1603 =>
    (ix rv10 sv31.2).bind fun x1812 =>
    (if (decide (e1603.2 < x1812.To)) = true then
      (ix rv10 sv31.2).bind fun x1846 =>
      (appM 16 e1603.1 ([(⟨e1603.2, x1846.To⟩ : Span)] : List Span)).bind fun l1856 =>
      ref08_Minus_j4 sv31 l1856
    else
      ref08_Minus_j4 sv31 e1603.1)
  else
    some (Sum.inr sv31.1))
noncomputable def ref08_Minus (a1 : (List Span)) (b5 : (List Span)) : Option (List Span) :=
  (ref08_Normal a1).bind fun rv10 =>
  (ref08_Normal b5).bind fun rv21 =>
  (whileM (ref08_Minus_l3 rv10 rv21) (([] : List Span), 0)).bind fun e1000 =>
  some e1000
-- seismonet/seismonetref16.Gaps
noncomputable def ref16_Gaps (l1 : (List Record)) (from5 : Int) (to6 : Int) : Option ((List Span) × Int) :=
  (ref16_window l1 from5 to6).bind fun rv8 =>
  (if (rv8 != 0) = true then
    some (([] : List Span), rv8)
  else
    (ref15_Covered l1).bind fun rv17 =>
    (ref08_Minus ([(⟨from5, to6⟩ : Span)] : List Span) rv17.1).bind fun rv30 =>
    some (rv30, 0))
-- seismonet/seismonetref16.add
noncomputable def ref16_add_l1 (l1 : (List Int)) (x6 : Int) (sv7 : Int) : Option (Int ⊕ Int) :=
  ((if (decide (sv7 < (l1.length : Int))) = true then
    (ix l1 sv7).bind fun x129 =>
    some (decide (x129 < x6))
  else
    some false)).bind fun c125 =>
  (if c125 = true then
    (some (w64 (sv7 + 1))).bind fun k145 =>
    some (Sum.inl k145)
  else
    some (Sum.inr sv7))
noncomputable def ref16_add (l1 : (List Int)) (x6 : Int) : Option (List Int) :=
  (whileM (ref16_add_l1 l1 x6) (0)).bind fun e109 =>
  ((if (decide (e109 < (l1.length : Int))) = true then
    (ix l1 e109).bind fun x165 =>
    some (x165 == x6)
  else
    some false)).bind fun c161 =>
  (if c161 = true then
    some l1
  else
    (appM 8 l1 ([0] : List Int)).bind fun l181 =>
    (subM l181 (w64 (e109 + 1)) (l181.length : Int)).bind fun l189 =>
    (subM l181 e109 (l181.length : Int)).bind fun l194 =>
    (some (copyM l181 (w64 (e109 + 1)) (l181.length : Int) l194)).bind fun l195 =>
    (ix l195 e109).bind fun x205 =>
    (setM l195 e109 x6).bind fun l217 =>
    some l217)
-- seismonet/seismonetref16.at
noncomputable def ref16_at_j1 (sv6 : ((List (Arr2 Int)) × Int)) (out1585 : (List (Arr2 Int))) : Option (((List (Arr2 Int)) × Int) ⊕ (List (Arr2 Int))) :=
  (some (w64 (sv6.2 + 1))).bind fun i1587 =>
  some (Sum.inl (out1585, i1587))
noncomputable def ref16_at_j2 (sv1616 : ((List (Arr2 Int)) × Int)) (out2181 : (List (Arr2 Int))) : Option (((List (Arr2 Int)) × Int) ⊕ (List (Arr2 Int))) :=
  (some (w64 (sv1616.2 + 1))).bind fun j2183 =>
  some (Sum.inl (out2181, j2183))
noncomputable def ref16_at_l6 (l1 : (List Record)) (t5 : Int) (sv6 : ((List (Arr2 Int)) × Int)) (sv1616 : ((List (Arr2 Int)) × Int)) : Option (((List (Arr2 Int)) × Int) ⊕ (List (Arr2 Int))) :=
  (ix l1 sv6.2).bind fun x1974 =>
  (if (decide (sv1616.2 < (x1974.Samples.length : Int))) = true then
    (ix l1 sv6.2).bind fun x2086 =>
    (ref14_Time x2086 sv1616.2).bind fun rv2097 =>
    ((if (decide (rv2097 ≤ t5)) = true then
      (ix l1 sv6.2).bind fun x2127 =>
      (ref14_Time x2127 (w64 (sv1616.2 + 1))).bind fun rv2138 =>
      some (decide (t5 < rv2138))
    else
      some false)).bind fun c2123 =>
    (if c2123 = true then
      (ix l1 sv6.2).bind fun x2187 =>
      (ix x2187.Samples sv1616.2).bind fun x2199 =>
      (appM 16 sv1616.1 ([(⟨rv2097, x2199⟩ : (Arr2 Int))] : List (Arr2 Int))).bind fun l2213 =>
      ref16_at_j2 sv1616 l2213
    else
      ref16_at_j2 sv1616 sv1616.1)
  else
    some (Sum.inr sv1616.1))
noncomputable def ref16_at_l3 (l1 : (List Record)) (t5 : Int) (sv6 : ((List (Arr2 Int)) × Int)) : Option (((List (Arr2 Int)) × Int) ⊕ (List (Arr2 Int))) :=
  (if (decide (sv6.2 < (l1.length : Int))) = true then
    (ix l1 sv6.2).bind fun x1590 =>
    (ref14_Span x1590).bind fun rv1606 =>
    (if ((decide (t5 < rv1606.1.From)) || (decide (rv1606.1.To ≤ t5))) = true then
      ref16_at_j1 sv6 sv6.1
    else
      (whileM (ref16_at_l6 l1 t5 sv6) (sv6.1, 0)).bind fun e1967 =>
      ref16_at_j1 sv6 e1967)
  else
    some (Sum.inr sv6.1))
noncomputable def ref16_at (l1 : (List Record)) (t5 : Int) : Option (List (Arr2 Int)) :=
  (whileM (ref16_at_l3 l1 t5) (([] : List (Arr2 Int)), 0)).bind fun e1191 =>
  some e1191
-- seismonet/seismonetref16.Overlaps
noncomputable def ref16_Overlaps_j1 (sv821 : ((List Int) × Int)) (cuts1106 : (List Int)) : Option (((List Int) × Int) ⊕ (List Int)) :=
  (some (w64 (sv821.2 + 1))).bind fun j1108 =>
  some (Sum.inl (cuts1106, j1108))
noncomputable def ref16_Overlaps_l6 (from5 : Int) (to6 : Int) (rv17 : ((List Record) × Int)) (sv29 : ((List Int) × Int)) (sv821 : ((List Int) × Int)) : Option (((List Int) × Int) ⊕ (List Int)) :=
  (ix rv17.1 sv29.2).bind fun x1014 =>
  (if (decide (sv821.2 ≤ (x1014.Samples.length : Int))) = true then
    (ix rv17.1 sv29.2).bind fun x1071 =>
    (ref14_Time x1071 sv821.2).bind fun rv1083 =>
    (if ((decide (from5 < rv1083)) && (decide (rv1083 < to6))) = true then
      (ref16_add sv821.1 rv1083).bind fun rv1111 =>
      ref16_Overlaps_j1 sv821 rv1111
    else
      ref16_Overlaps_j1 sv821 sv821.1)
  else
    some (Sum.inr sv821.1))
noncomputable def ref16_Overlaps_l3 (from5 : Int) (to6 : Int) (rv17 : ((List Record) × Int)) (sv29 : ((List Int) × Int)) : Option (((List Int) × Int) ⊕ (List Int)) :=
  (if (decide (sv29.2 < (rv17.1.length : Int))) = true then
    (whileM (ref16_Overlaps_l6 from5 to6 rv17 sv29) (sv29.1, 0)).bind fun e1007 =>
    (some (w64 (sv29.2 + 1))).bind fun i1123 =>
    some (Sum.inl (e1007, i1123))
  else
    some (Sum.inr sv29.1))
noncomputable def ref16_Overlaps_j4 (sv1126 : ((List Overlap) × Int)) (out2022 : (List Overlap)) : Option (((List Overlap) × Int) ⊕ (List Overlap)) :=
  (some (w64 (sv1126.2 + 1))).bind fun i2024 =>
  some (Sum.inl (out2022, i2024))
noncomputable def ref16_Overlaps_l12 (rv2039 : (List (Arr2 Int))) (sv2112 : (Bool × Int)) : Option ((Bool × Int) ⊕ Bool) :=
  (if (decide (sv2112.2 < (rv2039.length : Int))) = true then
    (if sv2112.1 = true then
      (ix rv2039 sv2112.2).bind fun x2228 =>
      (ix rv2039 0).bind fun x2241 =>
      some ((x2228.e0 == x2241.e0) && ((x2228.e1 == x2241.e1) && true))
    else
      some false).bind fun c2248 =>
    (some (w64 (sv2112.2 + 1))).bind fun k2276 =>
    some (Sum.inl (c2248, k2276))
  else
    some (Sum.inr sv2112.1))
noncomputable def ref16_Overlaps_j6 (sv1126 : ((List Overlap) × Int)) (out2368 : (List Overlap)) : Option (((List Overlap) × Int) ⊕ (List Overlap)) :=
  ref16_Overlaps_j4 sv1126 out2368
noncomputable def ref16_Overlaps_l9 (rv17 : ((List Record) × Int)) (e623 : (List Int)) (sv1126 : ((List Overlap) × Int)) : Option (((List Overlap) × Int) ⊕ (List Overlap)) :=
  (if (decide ((w64 (sv1126.2 + 1)) < (e623.length : Int))) = true then
    (ix e623 sv1126.2).bind fun x2027 =>
    (ref16_at rv17.1 x2027).bind fun rv2039 =>
    (if (decide ((rv2039.length : Int) < 2)) = true then
      some true
    else
      (ix e623 sv1126.2).bind fun x2051 =>
      (ix e623 (w64 (sv1126.2 + 1))).bind fun x2060 =>
      some (decide (x2060 ≤ x2051))).bind fun c2067 =>
    (if c2067 = true then
      ref16_Overlaps_j4 sv1126 sv1126.1
    else
      (ix e623 sv1126.2).bind fun x2094 =>
      (ix e623 (w64 (sv1126.2 + 1))).bind fun x2103 =>
      (whileM (ref16_Overlaps_l12 rv2039) (true, 1)).bind fun e2198 =>
      (some (sv1126.1.length : Int)).bind fun n2279 =>
      (if (decide (0 < n2279)) = true then
        (ix sv1126.1 (w64 (n2279 - 1))).bind fun x2282 =>
        some (x2282.To == x2094)
      else
        some false).bind fun c2293 =>
      (if c2293 = true then
        (ix sv1126.1 (w64 (n2279 - 1))).bind fun x2296 =>
        some (x2296.Same == e2198)
      else
        some false).bind fun c2307 =>
      (if c2307 = true then
        (ix sv1126.1 (w64 (n2279 - 1))).bind fun x2372 =>
        (setM sv1126.1 (w64 (n2279 - 1)) (⟨x2372.From, x2103, x2372.Same⟩ : Overlap)).bind fun l2384 =>
        ref16_Overlaps_j6 sv1126 l2384
      else
        (appM 24 sv1126.1 ([(⟨x2094, x2103, e2198⟩ : Overlap)] : List Overlap)).bind fun l2390 =>
        ref16_Overlaps_j6 sv1126 l2390))
  else
    some (Sum.inr sv1126.1))
noncomputable def ref16_Overlaps (l1 : (List Record)) (from5 : Int) (to6 : Int) : Option ((List Overlap) × Int) :=
  (ref16_window l1 from5 to6).bind fun rv8 =>
  (if (rv8 != 0) = true then
    some (([] : List Overlap), rv8)
  else
    (ref15_Order l1).bind fun rv17 =>
    (whileM (ref16_Overlaps_l3 from5 to6 rv17) (([from5, to6] : List Int), 0)).bind fun e623 =>
    (whileM (ref16_Overlaps_l9 rv17 e623) (([] : List Overlap), 0)).bind fun e1797 =>
    (if (decide (4096 < (e1797.length : Int))) = true then
      some (([] : List Overlap), 8)
    else
      some (e1797, 0)))
-- seismonet/seismonetref16.SameOverlaps
noncomputable def ref16_SameOverlaps_l2 (a1 : (List Overlap)) (b5 : (List Overlap)) (sv109 : Int) : Option (Int ⊕ Bool) :=
  (if (decide (sv109 < (a1.length : Int))) = true then
    (ix a1 sv109).bind fun x241 =>
    (ix b5 sv109).bind fun x254 =>
    (if (!((x241.From == x254.From) && ((x241.To == x254.To) && ((x241.Same == x254.Same) && true)))) = true then
      some (Sum.inr false)
    else
      (some (w64 (sv109 + 1))).bind fun i270 =>
      some (Sum.inl i270))
  else
    Option.map Sum.inr (some true))
noncomputable def ref16_SameOverlaps (a1 : (List Overlap)) (b5 : (List Overlap)) : Option Bool :=
  (if ((a1.length : Int) != (b5.length : Int)) = true then
    some false
  else
    whileM (ref16_SameOverlaps_l2 a1 b5) (0))
-- seismonet/seismonetref16.Depth
noncomputable def ref16_Depth (l1 : (List Record)) (t5 : Int) : Option Int :=
  (ref15_Order l1).bind fun rv7 =>
  (if (rv7.2 != 0) = true then
    some 0
  else
    (ref16_at rv7.1 t5).bind fun rv20 =>
    (some (rv20.length : Int)).bind fun x32 =>
    some x32)
-- seismonet/seismonetref16.Segments
noncomputable def ref16_Segments_j1 (sv28 : ((List Segment) × Int × Int × Int)) (out827 : (List Segment)) (worst828 : Int) (off829 : Int) : Option (((List Segment) × Int × Int × Int) ⊕ (List Segment)) :=
  (some (w64 (sv28.2.2.2 + 1))).bind fun i831 =>
  some (Sum.inl (out827, worst828, off829, i831))
noncomputable def ref16_Segments_j2 (sv28 : ((List Segment) × Int × Int × Int)) (x834 : Record) : Option (((List Segment) × Int × Int × Int) ⊕ (List Segment)) :=
  (appM 8 ([] : List Int) x834.Samples).bind fun l988 =>
  (appM 64 sv28.1 ([(⟨x834.Start, x834.First, x834.Rate, x834.Error, l988⟩ : Segment)] : List Segment)).bind fun l995 =>
  ref16_Segments_j1 sv28 l995 x834.Error 0
noncomputable def ref16_Segments_j3 (sv28 : ((List Segment) × Int × Int × Int)) (x834 : Record) : Option (((List Segment) × Int × Int × Int) ⊕ (List Segment)) :=
  ref16_Segments_j2 sv28 x834
noncomputable def ref16_Segments_l1 (tolerance5 : Int) (rv7 : ((List Record) × Int)) (sv28 : ((List Segment) × Int × Int × Int)) : Option (((List Segment) × Int × Int × Int) ⊕ (List Segment)) :=
  (if (decide (sv28.2.2.2 < (rv7.1.length : Int))) = true then
    (ix rv7.1 sv28.2.2.2).bind fun x834 =>
    (some (sv28.1.length : Int)).bind fun n851 =>
    (if (decide (0 < n851)) = true then
      (ix sv28.1 (w64 (n851 - 1))).bind fun x854 =>
      some ((x854.Rate.Num == x834.Rate.Num) && ((x854.Rate.Den == x834.Rate.Den) && true))
    else
      some false).bind fun c869 =>
    (if c869 = true then
      (ix sv28.1 (w64 (n851 - 1))).bind fun x1004 =>
      (ref02_Time x1004.Start x1004.Rate (w64 (x1004.First + (x1004.Samples.length : Int)))).bind fun rv1021 =>
      (ref14_Time x834 0).bind fun rv1028 =>
      (some (w64 (rv1028 - rv1021.1))).bind fun d1035 =>
      ((if (rv1021.2 == 0) = true then
        (ref01_In d1035 (w64 (0 - tolerance5)) tolerance5).bind fun rv1047 =>
        some rv1047
      else
        some false)).bind fun c1044 =>
      (if c1044 = true then
        (some (max sv28.2.1 x834.Error)).bind fun wv1098 =>
        (some (max sv28.2.2.1 (max d1035 (w64 (0 - d1035))))).bind fun o1100 =>
        (appM 8 ([] : List Int) x1004.Samples).bind fun l1102 =>
        (appM 8 l1102 x834.Samples).bind fun l1107 =>
        (ref16_ValidSegment (⟨x1004.Start, x1004.First, x1004.Rate, (min (w64 (wv1098 + o1100)) 1099511627776), l1107⟩ : Segment)).bind fun rv1113 =>
        (if rv1113 = true then
          (ix sv28.1 (w64 (n851 - 1))).bind fun x1141 =>
          (setM sv28.1 (w64 (n851 - 1)) (⟨x1004.Start, x1004.First, x1004.Rate, (min (w64 (wv1098 + o1100)) 1099511627776), l1107⟩ : Segment)).bind fun l1153 =>
          ref16_Segments_j1 sv28 l1153 wv1098 o1100
        else
          ref16_Segments_j3 sv28 x834)
      else
        ref16_Segments_j3 sv28 x834)
    else
      ref16_Segments_j2 sv28 x834)
  else
    some (Sum.inr sv28.1))
noncomputable def ref16_Segments (l1 : (List Record)) (tolerance5 : Int) : Option ((List Segment) × Int) :=
  (ref15_Compose l1).bind fun rv7 =>
  (if (rv7.2 != 0) = true then
    some (([] : List Segment), rv7.2)
  else
    (ref01_In tolerance5 0 1000000).bind fun rv20 =>
    (if (!rv20) = true then
      some (([] : List Segment), 2)
    else
      (whileM (ref16_Segments_l1 tolerance5 rv7) (([] : List Segment), 0, 0, 0)).bind fun e668 =>
      some (e668, 0)))
-- (*seismonet/seismonetmade.Dice).Wave
noncomputable def made_Dice_Wave_j2 (sv19 : ((List Int) × Int × (List Int) × Int × Int)) (x517 : (List Int)) (x518 : Int) (loud519 : Int) (x520 : Int) : Option (((List Int) × Int × (List Int) × Int × Int) ⊕ ((List Int) × Int × (List Int))) :=
  (appM 8 sv19.2.2.1 ([x520] : List Int)).bind fun l524 =>
  (some (w64 (sv19.2.2.2.2 - 1))).bind fun i529 =>
  some (Sum.inl (x517, x518, l524, loud519, i529))
noncomputable def made_Dice_Wave_j1 (sv19 : ((List Int) × Int × (List Int) × Int × Int)) (x474 : (List Int)) (x475 : Int) (loud476 : Int) : Option (((List Int) × Int × (List Int) × Int × Int) ⊕ ((List Int) × Int × (List Int))) :=
  (made_Dice_Next (⟨x474, x475⟩ : Dice) 5).bind fun rv478 =>
  (some (w64 (rv478.1 - 2))).bind fun x488 =>
  (if (decide (0 < loud476)) = true then
    (made_Dice_Next rv478.2 60).bind fun rv532 =>
    (made_Dice_Next rv532.2 2).bind fun rv542 =>
    (some (w64 ((w64 (rv532.1 + 20)) * (w64 (1 - (w64 (2 * rv542.1))))))).bind fun x552 =>
    (some (w64 (loud476 - 1))).bind fun loud554 =>
    made_Dice_Wave_j2 sv19 rv542.2.L rv542.2.At loud554 x552
  else
    made_Dice_Wave_j2 sv19 rv478.2.L rv478.2.At loud476 x488)
noncomputable def made_Dice_Wave_l1 (sv19 : ((List Int) × Int × (List Int) × Int × Int)) : Option (((List Int) × Int × (List Int) × Int × Int) ⊕ ((List Int) × Int × (List Int))) :=
  (if (decide (0 < sv19.2.2.2.2)) = true then
    ((if (sv19.2.2.2.1 == 0) = true then
      (made_Dice_Next (⟨sv19.1, sv19.2.1⟩ : Dice) 7).bind fun rv449 =>
      some (rv449.2.L, rv449.2.At, (rv449.1 == 0))
    else
      some (sv19.1, sv19.2.1, false))).bind fun c444 =>
    (if c444.2.2 = true then
      (made_Dice_Next (⟨c444.1, c444.2.1⟩ : Dice) 6).bind fun rv557 =>
      (some (w64 (1 + rv557.1))).bind fun loud567 =>
      made_Dice_Wave_j1 sv19 rv557.2.L rv557.2.At loud567
    else
      made_Dice_Wave_j1 sv19 c444.1 c444.2.1 sv19.2.2.2.1)
  else
    some (Sum.inr (sv19.1, sv19.2.1, sv19.2.2.1)))
noncomputable def made_Dice_Wave (d1 : Dice) (n6 : Int) : Option ((List Int) × Dice) :=
  (made_Dice_Next d1 n6).bind fun rv8 =>
  (some (w64 (1 + rv8.1))).bind fun i18 =>
  (whileM (made_Dice_Wave_l1) (rv8.2.L, rv8.2.At, ([] : List Int), 0, i18)).bind fun e329 =>
  some (e329.2.2, (⟨e329.1, e329.2.1⟩ : Dice))
-- (*seismonet/seismonetmade.Dice).Segment
noncomputable def made_Dice_Segment (d1 : Dice) (n6 : Int) : Option (Segment × Dice) :=
  (made_Dice_Next d1 3000000).bind fun rv9 =>
  (made_Dice_Pick rv9.2 ([0, 0, 5] : List Int)).bind fun rv21 =>
  (made_Dice_Pick rv21.2 ([1, 4, 20, 3] : List Int)).bind fun rv34 =>
  (made_Dice_Pick rv34.2 ([0, 10, 2000000] : List Int)).bind fun rv47 =>
  (made_Dice_Wave rv47.2 n6).bind fun rv58 =>
  some ((⟨(w64 (1000000000000 + rv9.1)), rv21.1, (⟨rv34.1, 1⟩ : Rate), rv47.1, rv58.1⟩ : Segment), rv58.2)
-- seismonet/seismonetref14.part
noncomputable def ref14_part_j2 (sv19 : (Int × Int × Int)) (first326 : Int) (last327 : Int) : Option ((Int × Int × Int) ⊕ (Int × Int)) :=
  (some (w64 (sv19.2.2 + 1))).bind fun i329 =>
  some (Sum.inl (first326, last327, i329))
noncomputable def ref14_part_j3 (sv19 : (Int × Int × Int)) (first333 : Int) : Option ((Int × Int × Int) ⊕ (Int × Int)) :=
  ref14_part_j2 sv19 first333 sv19.2.2
noncomputable def ref14_part_j1 (sv19 : (Int × Int × Int)) (inv320 : Bool) : Option ((Int × Int × Int) ⊕ (Int × Int)) :=
  (if inv320 = true then
    (if (decide (sv19.1 < 0)) = true then
      ref14_part_j3 sv19 sv19.2.2
    else
      ref14_part_j3 sv19 sv19.1)
  else
    ref14_part_j2 sv19 sv19.1 sv19.2.1)
noncomputable def ref14_part_l1 (r1 : Record) (from5 : Int) (to6 : Int) (whole7 : Bool) (sv19 : (Int × Int × Int)) : Option ((Int × Int × Int) ⊕ (Int × Int)) :=
  (if (decide (sv19.2.2 < (r1.Samples.length : Int))) = true then
    (ref14_Time r1 sv19.2.2).bind fun rv271 =>
    ((if (decide (from5 ≤ rv271)) = true then
      (ref14_Time r1 sv19.2.2).bind fun rv288 =>
      some (decide (rv288 < to6))
    else
      some false)).bind fun c285 =>
    (if whole7 = true then
      (ref14_Time r1 sv19.2.2).bind fun rv337 =>
      ((if (decide (from5 ≤ rv337)) = true then
        (ref14_Time r1 (w64 (sv19.2.2 + 1))).bind fun rv354 =>
        some (decide (rv354 ≤ to6))
      else
        some false)).bind fun c351 =>
      ref14_part_j1 sv19 c351
    else
      ref14_part_j1 sv19 c285)
  else
    some (Sum.inr (sv19.1, sv19.2.1)))
noncomputable def ref14_part (r1 : Record) (from5 : Int) (to6 : Int) (whole7 : Bool) : Option (Record × Bool × Int) :=
  (ref14_Valid r1).bind fun rv11 =>
  (if (!rv11) = true then
    some ((⟨(⟨ByteArray.empty, ByteArray.empty, ByteArray.empty, ByteArray.empty⟩ : SourceID), 0, 0, (⟨0, 0⟩ : Rate), 0, 0, 0, ([] : List Int)⟩ : Record), false, 1)
  else
    (whileM (ref14_part_l1 r1 from5 to6 whole7) ((-1), (-1), 0)).bind fun e208 =>
    (if (decide (e208.1 < 0)) = true then
      some ((⟨(⟨ByteArray.empty, ByteArray.empty, ByteArray.empty, ByteArray.empty⟩ : SourceID), 0, 0, (⟨0, 0⟩ : Rate), 0, 0, 0, ([] : List Int)⟩ : Record), false, 0)
    else
      (ref14_Sub r1 e208.1 (w64 (e208.2 + 1))).bind fun rv364 =>
      some (rv364.1, true, 0)))
-- seismonet/seismonetref14.Inside
noncomputable def ref14_Inside (r1 : Record) (from5 : Int) (to6 : Int) : Option (Record × Bool × Int) :=
  (ref14_part r1 from5 to6 true).bind fun rv10 =>
  some (rv10.1, rv10.2.1, rv10.2.2)
-- seismonet/seismonetref16.Window
noncomputable def ref16_Window_j1 (sv276 : ((List Segment) × Int)) (out568 : (List Segment)) : Option (((List Segment) × Int) ⊕ (List Segment)) :=
  (some (w64 (sv276.2 + 1))).bind fun i570 =>
  some (Sum.inl (out568, i570))
noncomputable def ref16_Window_l3 (l1 : (List Segment)) (from5 : Int) (to6 : Int) (sv276 : ((List Segment) × Int)) : Option (((List Segment) × Int) ⊕ (List Segment)) :=
  (if (decide (sv276.2 < (l1.length : Int))) = true then
    (ix l1 sv276.2).bind fun x518 =>
    (ref16_asRecord x518).bind fun rv534 =>
    (ref14_Inside rv534 from5 to6).bind fun rv544 =>
    (if rv544.2.1 = true then
      (appM 64 sv276.1 ([(⟨rv544.1.Start, rv544.1.First, rv544.1.Rate, rv544.1.Error, rv544.1.Samples⟩ : Segment)] : List Segment)).bind fun l576 =>
      ref16_Window_j1 sv276 l576
    else
      ref16_Window_j1 sv276 sv276.1)
  else
    some (Sum.inr sv276.1))
noncomputable def ref16_Window_l2 (l1 : (List Segment)) (from5 : Int) (to6 : Int) (sv125 : Int) : Option (Int ⊕ ((List Segment) × Int)) :=
  (if (decide (sv125 < (l1.length : Int))) = true then
    (ix l1 sv125).bind fun x245 =>
    (ref16_ValidSegment x245).bind fun rv261 =>
    (if (!rv261) = true then
      some (Sum.inr (([] : List Segment), 1))
    else
      (some (w64 (sv125 + 1))).bind fun i271 =>
      some (Sum.inl i271))
  else
    Option.map Sum.inr ((if (((decide (from5 < 0)) || (decide (to6 < from5))) || (decide (9007199254740992 < to6))) = true then
      some (([] : List Segment), 2)
    else
      (whileM (ref16_Window_l3 l1 from5 to6) (([] : List Segment), 0)).bind fun e456 =>
      some (e456, 0))))
noncomputable def ref16_Window (l1 : (List Segment)) (from5 : Int) (to6 : Int) : Option ((List Segment) × Int) :=
  whileM (ref16_Window_l2 l1 from5 to6) (0)
-- seismonet/record.Span
noncomputable def record_Span (r1 : Record) : Option (Span × Int) :=
  (record_Valid r1).bind fun rv8 =>
  (if (!rv8) = true then
    some ((⟨0, 0⟩ : Span), 1)
  else
    (record_time r1 0).bind fun rv17 =>
    (record_time r1 (r1.Samples.length : Int)).bind fun rv19 =>
    some ((⟨rv17, rv19⟩ : Span), 0))
-- seismonet/continuity.SegmentSpan
noncomputable def continuity_SegmentSpan (s1 : Segment) : Option (Span × Int) :=
  (continuity_body s1).bind fun rv8 =>
  (record_Span rv8).bind fun rv18 =>
  some (rv18.1, rv18.2)
-- seismonet/seismonetref16.SegmentSpan
noncomputable def ref16_SegmentSpan (s1 : Segment) : Option (Span × Int) :=
  (ref16_asRecord s1).bind fun rv8 =>
  (ref14_Span rv8).bind fun rv18 =>
  some (rv18.1, rv18.2)
-- seismonet/seismonetlaw16.ContinuityExact
noncomputable def law16_ContinuityExact_l24 (tolerance15 : Int) (sv1909 : ((List Int) × Int × Int)) (x3643 : (List Record)) (rv4381 : (Int × Dice)) (sv4548 : Int) : Option (Int ⊕ (((List Int) × Int × Int) ⊕ Bool)) :=
  (if (decide (sv4548 < (([tolerance15, 0, rv4381.1] : List Int).length : Int))) = true then
    (ix ([tolerance15, 0, rv4381.1] : List Int) sv4548).bind fun x4758 =>
    (continuity_Segments x3643 x4758).bind fun rv4766 =>
    (ref16_Segments x3643 x4758).bind fun rv4777 =>
    ((if (rv4766.2 != rv4777.2) = true then
      some true
    else
      (ref16_SameSegments rv4766.1 rv4777.1).bind fun rv4798 =>
      some (!rv4798))).bind fun c4795 =>
    (if c4795 = true then
      some (Sum.inr (Sum.inr false))
    else
      some (Sum.inl (w64 (sv4548 + 1))))
  else
    Option.map Sum.inr (some (Sum.inl (rv4381.2.L, rv4381.2.At, (w64 (sv1909.2.2 + 1))))))
noncomputable def law16_ContinuityExact_l22 (from13 : Int) (to14 : Int) (tolerance15 : Int) (sv1909 : ((List Int) × Int × Int)) (x3643 : (List Record)) (rv3655 : (Int × Dice)) (rv3665 : (Int × Dice)) (sv3900 : Int) : Option (Int ⊕ (((List Int) × Int × Int) ⊕ Bool)) :=
  (if (decide (sv3900 < (([(⟨from13, to14⟩ : (Arr2 Int)), (⟨1000000000000, 1000015000000⟩ : (Arr2 Int)), (⟨(w64 (1000000000000 + (w64 (333333 * rv3655.1)))), (w64 (1000000000000 + (w64 (333333 * rv3665.1))))⟩ : (Arr2 Int)), (⟨0, 9007199254740992⟩ : (Arr2 Int))] : List (Arr2 Int)).length : Int))) = true then
    (ix ([(⟨from13, to14⟩ : (Arr2 Int)), (⟨1000000000000, 1000015000000⟩ : (Arr2 Int)), (⟨(w64 (1000000000000 + (w64 (333333 * rv3655.1)))), (w64 (1000000000000 + (w64 (333333 * rv3665.1))))⟩ : (Arr2 Int)), (⟨0, 9007199254740992⟩ : (Arr2 Int))] : List (Arr2 Int)) sv3900).bind fun x4202 =>
    (continuity_Gaps x3643 x4202.e0 x4202.e1).bind fun rv4211 =>
    (ref16_Gaps x3643 x4202.e0 x4202.e1).bind fun rv4222 =>
    (continuity_Overlaps x3643 x4202.e0 x4202.e1).bind fun rv4233 =>
    (ref16_Overlaps x3643 x4202.e0 x4202.e1).bind fun rv4244 =>
    (if (rv4211.2 != rv4222.2) = true then
      some true
    else
      (ref08_Same rv4211.1 rv4222.1).bind fun rv4255 =>
      some (!rv4255)).bind fun c4256 =>
    (if (c4256 || (rv4233.2 != rv4244.2)) = true then
      some true
    else
      (ref16_SameOverlaps rv4233.1 rv4244.1).bind fun rv4258 =>
      some (!rv4258)).bind fun c4259 =>
    (if c4259 = true then
      some true
    else
      (continuity_Depth x3643 x4202.e0).bind fun rv4261 =>
      (ref16_Depth x3643 x4202.e0).bind fun rv4263 =>
      some (rv4261 != rv4263)).bind fun c4264 =>
    (if c4264 = true then
      some true
    else
      (continuity_Depth x3643 x4202.e1).bind fun rv4266 =>
      (ref16_Depth x3643 x4202.e1).bind fun rv4268 =>
      some (rv4266 != rv4268)).bind fun c4269 =>
    (if c4269 = true then
      some (Sum.inr (Sum.inr false))
    else
      some (Sum.inl (w64 (sv3900 + 1))))
  else
    Option.map Sum.inr ((made_Dice_Pick rv3665.2 ([1, 250000, 1000000, 1000001] : List Int)).bind fun rv4381 =>
    whileM (law16_ContinuityExact_l24 tolerance15 sv1909 x3643 rv4381) (0)))
noncomputable def law16_ContinuityExact_l44 (sv5843 : ((List Int) × Int × Int)) (x7157 : (List Segment)) (rv7179 : (Int × Dice)) (sv7744 : Int) : Option (Int ⊕ (((List Int) × Int × Int) ⊕ Bool)) :=
  (if (decide (sv7744 < (x7157.length : Int))) = true then
    (ix x7157 sv7744).bind fun x7922 =>
    (continuity_SegmentSpan x7922).bind fun rv7939 =>
    (ref16_SegmentSpan x7922).bind fun rv7947 =>
    (if ((!((rv7939.1.From == rv7947.1.From) && ((rv7939.1.To == rv7947.1.To) && true))) || (rv7939.2 != rv7947.2)) = true then
      some true
    else
      (continuity_ValidSegment x7922).bind fun rv7955 =>
      (ref16_ValidSegment x7922).bind fun rv7957 =>
      some (!(rv7955 == rv7957))).bind fun c7958 =>
    (if c7958 = true then
      some (Sum.inr (Sum.inr false))
    else
      some (Sum.inl (w64 (sv7744 + 1))))
  else
    Option.map Sum.inr (some (Sum.inl (rv7179.2.L, rv7179.2.At, (w64 (sv5843.2.2 + 1))))))
noncomputable def law16_ContinuityExact_l42 (from13 : Int) (to14 : Int) (sv5843 : ((List Int) × Int × Int)) (x7157 : (List Segment)) (rv7169 : (Int × Dice)) (rv7179 : (Int × Dice)) (sv7348 : Int) : Option (Int ⊕ (((List Int) × Int × Int) ⊕ Bool)) :=
  (if (decide (sv7348 < (([(⟨from13, to14⟩ : (Arr2 Int)), (⟨(w64 (1000000000000 + (w64 (333333 * rv7169.1)))), (w64 (1000000000000 + (w64 (333333 * rv7179.1))))⟩ : (Arr2 Int))] : List (Arr2 Int)).length : Int))) = true then
    (ix ([(⟨from13, to14⟩ : (Arr2 Int)), (⟨(w64 (1000000000000 + (w64 (333333 * rv7169.1)))), (w64 (1000000000000 + (w64 (333333 * rv7179.1))))⟩ : (Arr2 Int))] : List (Arr2 Int)) sv7348).bind fun x7562 =>
    (continuity_Window x7157 x7562.e0 x7562.e1).bind fun rv7571 =>
    (ref16_Window x7157 x7562.e0 x7562.e1).bind fun rv7582 =>
    ((if (rv7571.2 != rv7582.2) = true then
      some true
    else
      (ref16_SameSegments rv7571.1 rv7582.1).bind fun rv7603 =>
      some (!rv7603))).bind fun c7600 =>
    (if c7600 = true then
      some (Sum.inr (Sum.inr false))
    else
      some (Sum.inl (w64 (sv7348 + 1))))
  else
    Option.map Sum.inr (whileM (law16_ContinuityExact_l44 sv5843 x7157 rv7179) (0)))
noncomputable def law16_ContinuityExact_l36 (segments9 : (List Segment)) (from13 : Int) (to14 : Int) (rv4813 : ((List Segment) × Int)) (rv4824 : (Segment × Dice)) (rv4838 : (Segment × Dice)) (sv5843 : ((List Int) × Int × Int)) : Option (((List Int) × Int × Int) ⊕ Bool) :=
  (if (decide (sv5843.2.2 < (([rv4813.1, segments9, ([rv4824.1, rv4838.1] : List Segment)] : List (List Segment)).length : Int))) = true then
    (ix ([rv4813.1, segments9, ([rv4824.1, rv4838.1] : List Segment)] : List (List Segment)) sv5843.2.2).bind fun x7157 =>
    (made_Dice_Next (⟨sv5843.1, sv5843.2.1⟩ : Dice) 20).bind fun rv7169 =>
    (made_Dice_Next rv7169.2 40).bind fun rv7179 =>
    whileM (law16_ContinuityExact_l42 from13 to14 sv5843 x7157 rv7169 rv7179) (0)
  else
    Option.map Sum.inr ((law16_sane).bind fun rv7986 =>
    some rv7986))
noncomputable def law16_ContinuityExact_l16 (raw5 : (List Record)) (segments9 : (List Segment)) (from13 : Int) (to14 : Int) (tolerance15 : Int) (rv527 : ((List Record) × Dice)) (odd605 : (List Record)) (sv1909 : ((List Int) × Int × Int)) : Option (((List Int) × Int × Int) ⊕ Bool) :=
  (if (decide (sv1909.2.2 < (([rv527.1, odd605, raw5] : List (List Record)).length : Int))) = true then
    (ix ([rv527.1, odd605, raw5] : List (List Record)) sv1909.2.2).bind fun x3643 =>
    (made_Dice_Next (⟨sv1909.1, sv1909.2.1⟩ : Dice) 20).bind fun rv3655 =>
    (made_Dice_Next rv3655.2 40).bind fun rv3665 =>
    whileM (law16_ContinuityExact_l22 from13 to14 tolerance15 sv1909 x3643 rv3655 rv3665) (0)
  else
    Option.map Sum.inr ((ref16_Segments rv527.1 250000).bind fun rv4813 =>
    (made_Dice_Segment (⟨sv1909.1, sv1909.2.1⟩ : Dice) 9).bind fun rv4824 =>
    (made_Dice_Segment rv4824.2 9).bind fun rv4838 =>
    whileM (law16_ContinuityExact_l36 segments9 from13 to14 rv4813 rv4824 rv4838) (rv4838.2.L, rv4838.2.At, 0)))
noncomputable def law16_ContinuityExact_j1 (raw5 : (List Record)) (segments9 : (List Segment)) (from13 : Int) (to14 : Int) (tolerance15 : Int) (rv527 : ((List Record) × Dice)) (x603 : (List Int)) (x604 : Int) (odd605 : (List Record)) : Option Bool :=
  whileM (law16_ContinuityExact_l16 raw5 segments9 from13 to14 tolerance15 rv527 odd605) (x603, x604, 0)
noncomputable def law16_ContinuityExact_l4 (t1 : (List Int)) (raw5 : (List Record)) (segments9 : (List Segment)) (from13 : Int) (to14 : Int) (tolerance15 : Int) (sv364 : Int) : Option (Int ⊕ Bool) :=
  (if (decide (sv364 < (segments9.length : Int))) = true then
    (ix segments9 sv364).bind fun x482 =>
    (if (decide (60 < (x482.Samples.length : Int))) = true then
      (law16_sane).bind fun rv508 =>
      some (Sum.inr rv508)
    else
      some (Sum.inl (w64 (sv364 + 1))))
  else
    Option.map Sum.inr ((made_Roll t1).bind fun rv516 =>
    (made_Dice_Records rv516 5).bind fun rv527 =>
    (appM 144 ([] : List Record) rv527.1).bind fun l541 =>
    (some (l541.length : Int)).bind fun n546 =>
    (if (decide (0 < n546)) = true then
      (ix l541 (w64 (n546 - 1))).bind fun x7999 =>
      (made_Dice_OddRecord rv527.2 x7999).bind fun rv8015 =>
      (ix l541 (w64 (n546 - 1))).bind fun x8030 =>
      (setM l541 (w64 (n546 - 1)) rv8015.1).bind fun l8042 =>
      law16_ContinuityExact_j1 raw5 segments9 from13 to14 tolerance15 rv527 rv8015.2.L rv8015.2.At l8042
    else
      law16_ContinuityExact_j1 raw5 segments9 from13 to14 tolerance15 rv527 rv527.2.L rv527.2.At l541)))
noncomputable def law16_ContinuityExact_l2 (t1 : (List Int)) (raw5 : (List Record)) (segments9 : (List Segment)) (from13 : Int) (to14 : Int) (tolerance15 : Int) (sv127 : Int) : Option (Int ⊕ Bool) :=
  (if (decide (sv127 < (raw5.length : Int))) = true then
    (ix raw5 sv127).bind fun x245 =>
    (if (decide (20 < (x245.Samples.length : Int))) = true then
      (law16_sane).bind fun rv271 =>
      some (Sum.inr rv271)
    else
      some (Sum.inl (w64 (sv127 + 1))))
  else
    Option.map Sum.inr (whileM (law16_ContinuityExact_l4 t1 raw5 segments9 from13 to14 tolerance15) (0)))
noncomputable def law16_ContinuityExact (t1 : (List Int)) (raw5 : (List Record)) (segments9 : (List Segment)) (from13 : Int) (to14 : Int) (tolerance15 : Int) : Option Bool :=
  (made_Light t1).bind fun rv17 =>
  (if (((!rv17) || (decide (6 < (raw5.length : Int)))) || (decide (6 < (segments9.length : Int)))) = true then
    (law16_sane).bind fun rv35 =>
    some rv35
  else
    whileM (law16_ContinuityExact_l2 t1 raw5 segments9 from13 to14 tolerance15) (0))
end Go.Proofs.YtdcafiefjakfeaaGreat.Sh

/- Each Go function as a plain program over lists and numbers (none: a panic, or no end). Printed by a program of ours out of the translation. -/
import Derived.Test.YtdcafiefjakfeaaGreatShData
import Derived.Test.YtdcafiefjakfeaaGreatLb1
namespace Go.Proofs.YtdcafiefjakfeaaGreat.Sh
open Go
set_option linter.unusedVariables false
noncomputable def made_Light (l1 : (List Int)) : Option Bool :=
 some (decide ((l1.length : Int) ≤ 500))
noncomputable def slices_IndexFunc_Lapi_Record_api_Record_l2 (s1 : (List Record)) (f5 : Record → Option Bool) (sv90 : Int) : Option (Int ⊕ Int) :=
 (if (decide (sv90 < (s1.length : Int))) = true then
 (ix s1 sv90).bind fun x200 =>
 (f5 x200).bind fun rv216 =>
 (if rv216 = true then
 some (Sum.inr sv90)
 else
 some (Sum.inl (w64 (sv90 + 1))))
 else
 Option.map Sum.inr (some (-1)))
noncomputable def slices_IndexFunc_Lapi_Record_api_Record (s1 : (List Record)) (f5 : Record → Option Bool) : Option Int :=
 whileM (slices_IndexFunc_Lapi_Record_api_Record_l2 s1 f5) (0)
noncomputable def slices_ContainsFunc_Lapi_Record_api_Record (s1 : (List Record)) (f5 : Record → Option Bool) : Option Bool :=
 (slices_IndexFunc_Lapi_Record_api_Record s1 f5).bind fun rv11 =>
 some (decide (0 ≤ rv11))
noncomputable def source_plain (c1 : Int) : Option Bool :=
 some (((decide (65 ≤ c1)) && (decide (c1 ≤ 90))) || ((decide (48 ≤ c1)) && (decide (c1 ≤ 57))))
noncomputable def source_code_l2 (s1 : ByteArray) (low2 : Int) (high3 : Int) (sv42 : Int) : Option (Int ⊕ Bool) :=
 (if (decide (sv42 < (s1.size : Int))) = true then
 (byteAt s1 sv42).bind fun c95 =>
 (source_plain c95).bind fun rv97 =>
 (if (!rv97) = true then
 some (Sum.inr false)
 else
 some (Sum.inl (w64 (sv42 + 1))))
 else
 Option.map Sum.inr (some ((decide (low2 ≤ (s1.size : Int))) && (decide ((s1.size : Int) ≤ high3)))))
noncomputable def source_code (s1 : ByteArray) (low2 : Int) (high3 : Int) : Option Bool :=
 whileM (source_code_l2 s1 low2 high3) (0)
noncomputable def source_Valid (s1 : SourceID) : Option Bool :=
 (source_code s1.Network 1 2).bind fun rv4 =>
 ((if rv4 = true then
 (source_code s1.Station 1 5).bind fun rv21 =>
 some rv21
 else
 some false)).bind fun c18 =>
 ((if c18 = true then
 (source_code s1.Location 0 2).bind fun rv38 =>
 some rv38
 else
 some false)).bind fun c35 =>
 ((if (c35 && ((s1.Location.size : Int) != 1)) = true then
 (source_code s1.Channel 3 3).bind fun rv56 =>
 some rv56
 else
 some false)).bind fun c53 =>
 some c53
noncomputable def record_in (n1 : Int) (low2 : Int) (high3 : Int) : Option Bool :=
 some ((decide (low2 ≤ n1)) && (decide (n1 ≤ high3)))
noncomputable def rate_in (n1 : Int) (low2 : Int) (high3 : Int) : Option Bool :=
 some ((decide (low2 ≤ n1)) && (decide (n1 ≤ high3)))
noncomputable def rate_gcd_l1 (sv3 : (Int × Int)) : Option ((Int × Int) ⊕ Int) :=
 (if (sv3.2 != 0) = true then
 (remM sv3.1 sv3.2).bind fun rem29 =>
 some (Sum.inl (sv3.2, rem29))
 else
 some (Sum.inr sv3.1))
noncomputable def rate_gcd (a1 : Int) (b2 : Int) : Option Int :=
 (whileM (rate_gcd_l1) (a1, b2)).bind fun e21 =>
 some e21
noncomputable def rate_Valid (r1 : Rate) : Option Bool :=
 (rate_in r1.Num 1 4096).bind fun rv4 =>
 ((if rv4 = true then
 (rate_in r1.Den 1 4096).bind fun rv21 =>
 some rv21
 else
 some false)).bind fun c18 =>
 ((if c18 = true then
 (rate_gcd r1.Num r1.Den).bind fun rv38 =>
 some (rv38 == 1)
 else
 some false)).bind fun c35 =>
 some c35
noncomputable def rate_micros (r1 : Rate) : Option Int :=
 (some (w64 (r1.Den * 1000000))).bind fun x4 =>
 some x4
noncomputable def rate_after (r1 : Rate) (k2 : Int) : Option Int :=
 (rate_micros r1).bind fun rv5 =>
 (quoM .i64 (w64 (k2 * rv5)) r1.Num).bind fun quo7 =>
 some quo7
noncomputable def rate_Time (start1 : Int) (r2 : Rate) (k3 : Int) : Option (Int × Int) :=
 (rate_Valid r2).bind fun rv6 =>
 (if (!rv6) = true then
 some (0, 1)
 else
 (rate_in start1 0 9007199254740992).bind fun rv15 =>
 ((if (!rv15) = true then
 some true
 else
 (rate_in k3 0 16777216).bind fun rv32 =>
 some (!rv32))).bind fun c29 =>
 (if c29 = true then
 some (0, 2)
 else
 (rate_after r2 k3).bind fun rv41 =>
 (some (w64 (start1 + rv41))).bind fun x48 =>
 some (x48, 0)))
noncomputable def slices_IndexFunc_Lint_int_l2 (s1 : (List Int)) (f5 : Int → Option Bool) (sv78 : Int) : Option (Int ⊕ Int) :=
 (if (decide (sv78 < (s1.length : Int))) = true then
 (ix s1 sv78).bind fun x172 =>
 (f5 x172).bind fun rv184 =>
 (if rv184 = true then
 some (Sum.inr sv78)
 else
 some (Sum.inl (w64 (sv78 + 1))))
 else
 Option.map Sum.inr (some (-1)))
noncomputable def slices_IndexFunc_Lint_int (s1 : (List Int)) (f5 : Int → Option Bool) : Option Int :=
 whileM (slices_IndexFunc_Lint_int_l2 s1 f5) (0)
noncomputable def slices_ContainsFunc_Lint_int (s1 : (List Int)) (f5 : Int → Option Bool) : Option Bool :=
 (slices_IndexFunc_Lint_int s1 f5).bind fun rv11 =>
 some (decide (0 ≤ rv11))
noncomputable def record_Valid_fn1 (x1 : Int) : Option Bool :=
 (record_in x1 (-1073741823) 1073741823).bind fun rv3 =>
 some (!rv3)
noncomputable def record_Valid (r1 : Record) : Option Bool :=
 (some (r1.Samples.length : Int)).bind fun n7 =>
 (source_Valid r1.Source).bind fun rv9 =>
 ((if (!rv9) = true then
 some true
 else
 (record_in n7 1 65536).bind fun rv26 =>
 some (!rv26))).bind fun c23 =>
 ((if c23 = true then
 some true
 else
 (record_in r1.First 0 (w64 (16777216 - n7))).bind fun rv43 =>
 some (!rv43))).bind fun c40 =>
 ((if c40 = true then
 some true
 else
 (record_in r1.Error 0 1099511627776).bind fun rv60 =>
 some (!rv60))).bind fun c57 =>
 ((if c57 = true then
 some true
 else
 (record_in r1.Run 0 65535).bind fun rv77 =>
 some (!rv77))).bind fun c74 =>
 ((if c74 = true then
 some true
 else
 (record_in r1.Seq 0 1073741824).bind fun rv94 =>
 some (!rv94))).bind fun c91 =>
 (if c91 = true then
 some false
 else
 (rate_Time r1.Start r1.Rate (w64 (r1.First + n7))).bind fun rv103 =>
 ((if ((rv103.2 == 0) && (decide (rv103.1 ≤ 9007199254740992))) = true then
 (slices_ContainsFunc_Lint_int r1.Samples record_Valid_fn1).bind fun rv121 =>
 some (!rv121)
 else
 some false)).bind fun c118 =>
 some c118)
noncomputable def compose_alike_fn1 (r1 : Record) (x5 : (List Record)) : Option Bool :=
 (record_Valid r1).bind fun rv13 =>
 (if (!rv13) = true then
 some true
 else
 (ix x5 0).bind fun x16 =>
 some (!((r1.Source.Network == x16.Source.Network) && ((r1.Source.Station == x16.Source.Station) && ((r1.Source.Location == x16.Source.Location) && ((r1.Source.Channel == x16.Source.Channel) && true)))))).bind fun c31 =>
 some c31
noncomputable def compose_alike (l1 : (List Record)) : Option Bool :=
 (slices_ContainsFunc_Lapi_Record_api_Record l1 (fun y0 => compose_alike_fn1 y0 l1)).bind fun rv7 =>
 some (!rv7)
noncomputable def compose_Valid (l1 : (List Record)) : Option Bool :=
 ((if (decide ((l1.length : Int) ≤ 256)) = true then
 (compose_alike l1).bind fun rv16 =>
 some rv16
 else
 some false)).bind fun c13 =>
 some c13
noncomputable def continuity_window (from1 : Int) (to2 : Int) : Option Bool :=
 some (((decide (0 ≤ from1)) && (decide (from1 ≤ to2))) && (decide (to2 ≤ 9007199254740992)))
noncomputable def continuity_check (l1 : (List Record)) (from5 : Int) (to6 : Int) : Option Int :=
 (compose_Valid l1).bind fun rv8 =>
 (if (!rv8) = true then
 some 1
 else
 (continuity_window from5 to6).bind fun rv17 =>
 (if (!rv17) = true then
 some 2
 else
 some 0))
noncomputable def compose_at (r1 : Record) (i5 : Int) : Option Int :=
 (rate_Time r1.Start r1.Rate (w64 (r1.First + i5))).bind fun rv8 =>
 some rv8.1
noncomputable def compose_extent (r1 : Record) : Option Span :=
 (compose_at r1 0).bind fun rv8 =>
 (compose_at r1 (r1.Samples.length : Int)).bind fun rv10 =>
 some (⟨rv8, rv10⟩ : Span)
noncomputable def slices_Clone_Lapi_Span_api_Span (s1 : (List Span)) : Option (List Span) :=
 (appM 16 ([] : List Span) s1).bind fun l11 =>
 some l11
noncomputable def slices_IndexFunc_Lapi_Span_api_Span_l2 (s1 : (List Span)) (f5 : Span → Option Bool) (sv78 : Int) : Option (Int ⊕ Int) :=
 (if (decide (sv78 < (s1.length : Int))) = true then
 (ix s1 sv78).bind fun x172 =>
 (f5 x172).bind fun rv184 =>
 (if rv184 = true then
 some (Sum.inr sv78)
 else
 some (Sum.inl (w64 (sv78 + 1))))
 else
 Option.map Sum.inr (some (-1)))
noncomputable def slices_IndexFunc_Lapi_Span_api_Span (s1 : (List Span)) (f5 : Span → Option Bool) : Option Int :=
 whileM (slices_IndexFunc_Lapi_Span_api_Span_l2 s1 f5) (0)
noncomputable def slices_DeleteFunc_Lapi_Span_api_Span_j1 (sv22 : ((List Span) × Int × Int)) (sv247 : (List Span)) (i248 : Int) : Option (((List Span) × Int × Int) ⊕ ((List Span) × Int)) :=
 (some (w64 (sv22.2.2 + 1))).bind fun j250 =>
 some (Sum.inl (sv247, i248, j250))
noncomputable def slices_DeleteFunc_Lapi_Span_api_Span_l1 (del6 : Span → Option Bool) (sv22 : ((List Span) × Int × Int)) : Option (((List Span) × Int × Int) ⊕ ((List Span) × Int)) :=
 (if (decide (sv22.2.2 < (sv22.1.length : Int))) = true then
 (ix sv22.1 sv22.2.2).bind fun x210 =>
 (del6 x210).bind fun rv223 =>
 (if (!rv223) = true then
 (ix sv22.1 sv22.2.1).bind fun x254 =>
 (setM sv22.1 sv22.2.1 x210).bind fun l262 =>
 (some (w64 (sv22.2.1 + 1))).bind fun i267 =>
 slices_DeleteFunc_Lapi_Span_api_Span_j1 sv22 l262 i267
 else
 slices_DeleteFunc_Lapi_Span_api_Span_j1 sv22 sv22.1 sv22.2.1)
 else
 some (Sum.inr (sv22.1, sv22.2.1)))
noncomputable def slices_DeleteFunc_Lapi_Span_api_Span (s1 : (List Span)) (del6 : Span → Option Bool) : Option (List Span) :=
 (slices_IndexFunc_Lapi_Span_api_Span s1 del6).bind fun rv12 =>
 (if (rv12 == (-1)) = true then
 some s1
 else
 (some (w64 (rv12 + 1))).bind fun j21 =>
 (whileM (slices_DeleteFunc_Lapi_Span_api_Span_l1 del6) (s1, rv12, j21)).bind fun e162 =>
 (subM e162.1 e162.2 (e162.1.length : Int)).bind fun l273 =>
 (some (copyM e162.1 e162.2 (e162.1.length : Int) (List.replicate l273.length ((⟨0, 0⟩ : Span) : Span)))).bind fun l274 =>
 (subM l274 0 e162.2).bind fun l283 =>
 some l283)
noncomputable def span_some (s1 : Span) : Option Bool :=
 some (decide (s1.From < s1.To))
noncomputable def span_Normal_fn1 (s1 : Span) : Option Bool :=
 (span_some s1).bind fun rv4 =>
 some (!rv4)
noncomputable def slices_SortFunc_Lapi_Span_api_Span (x1 : (List Span)) (cmp6 : Span → Span → Option Int) : Option (List Span) :=
 sortP x1 cmp6
noncomputable def cmp_isNaN_int (x1 : Int) : Option Bool :=
 some (x1 != x1)
noncomputable def cmp_Compare_int (x1 : Int) (y2 : Int) : Option Int :=
 (cmp_isNaN_int x1).bind fun rv4 =>
 (cmp_isNaN_int y2).bind fun rv11 =>
 (if rv4 = true then
 (if rv11 = true then
 some 0
 else
 some (-1))
 else
 (if rv11 = true then
 some 1
 else
 (if (decide (x1 < y2)) = true then
 some (-1)
 else
 (if (decide (y2 < x1)) = true then
 some 1
 else
 some 0))))
noncomputable def span_Normal_fn2 (a1 : Span) (b2 : Span) : Option Int :=
 (cmp_Compare_int a1.From b2.From).bind fun rv6 =>
 some rv6
noncomputable def span_Normal_j1 (sv39 : ((List Span) × Int)) (out425 : (List Span)) : Option (((List Span) × Int) ⊕ (List Span)) :=
 some (Sum.inl (out425, (w64 (sv39.2 + 1))))
noncomputable def span_Normal_l1 (rv28 : (List Span)) (sv39 : ((List Span) × Int)) : Option (((List Span) × Int) ⊕ (List Span)) :=
 (if (decide (sv39.2 < (rv28.length : Int))) = true then
 (ix rv28 sv39.2).bind fun x341 =>
 (some (sv39.1.length : Int)).bind fun n354 =>
 (if (decide (0 < n354)) = true then
 (ix sv39.1 (w64 (n354 - 1))).bind fun x357 =>
 some (decide (x341.From ≤ x357.To))
 else
 some false).bind fun c368 =>
 (if c368 = true then
 (ix sv39.1 (w64 (n354 - 1))).bind fun x429 =>
 (ix sv39.1 (w64 (n354 - 1))).bind fun x442 =>
 (setM sv39.1 (w64 (n354 - 1)) (⟨x442.From, (max x429.To x341.To)⟩ : Span)).bind fun l450 =>
 span_Normal_j1 sv39 l450
 else
 (appM 16 sv39.1 ([x341] : List Span)).bind fun l457 =>
 span_Normal_j1 sv39 l457)
 else
 some (Sum.inr sv39.1))
noncomputable def span_Normal (l1 : (List Span)) : Option (List Span) :=
 (slices_Clone_Lapi_Span_api_Span l1).bind fun rv6 =>
 (slices_DeleteFunc_Lapi_Span_api_Span rv6 span_Normal_fn1).bind fun rv17 =>
 (slices_SortFunc_Lapi_Span_api_Span rv17 span_Normal_fn2).bind fun rv28 =>
 (whileM (span_Normal_l1 rv28) (([] : List Span), 0)).bind fun e261 =>
 some e261
noncomputable def compose_Covered_l1 (l1 : (List Record)) (sv14 : ((List Span) × Int)) : Option (((List Span) × Int) ⊕ (List Span)) :=
 (if (decide (sv14.2 < (l1.length : Int))) = true then
 (ix l1 sv14.2).bind fun x166 =>
 (compose_extent x166).bind fun rv183 =>
 (appM 16 sv14.1 ([rv183] : List Span)).bind fun l192 =>
 some (Sum.inl (l192, (w64 (sv14.2 + 1))))
 else
 some (Sum.inr sv14.1))
noncomputable def compose_Covered (l1 : (List Record)) : Option ((List Span) × Int) :=
 (compose_Valid l1).bind fun rv6 =>
 (if (!rv6) = true then
 some (([] : List Span), 1)
 else
 (whileM (compose_Covered_l1 l1) (([] : List Span), 0)).bind fun e125 =>
 (span_Normal e125).bind fun rv198 =>
 some (rv198, 0))
noncomputable def span_Minus_j1 (sv699 : ((List Span) × Int × Int)) (out867 : (List Span)) (atv868 : Int) : Option (((List Span) × Int × Int) ⊕ ((List Span) × Int)) :=
 some (Sum.inl (out867, atv868, (w64 (sv699.2.2 + 1))))
noncomputable def span_Minus_j2 (sv699 : ((List Span) × Int × Int)) (x871 : Span) (out898 : (List Span)) : Option (((List Span) × Int × Int) ⊕ ((List Span) × Int)) :=
 (some (max sv699.2.1 x871.To)).bind fun atv900 =>
 span_Minus_j1 sv699 out898 atv900
noncomputable def span_Minus_l6 (rv10 : (List Span)) (x687 : Span) (sv699 : ((List Span) × Int × Int)) : Option (((List Span) × Int × Int) ⊕ ((List Span) × Int)) :=
 (if (decide (sv699.2.2 < (rv10.length : Int))) = true then
 (ix rv10 sv699.2.2).bind fun x871 =>
 (if ((decide (x871.To ≤ sv699.2.1)) || (decide (x687.To ≤ x871.From))) = true then
 span_Minus_j1 sv699 sv699.1 sv699.2.1
 else
 (if (decide (sv699.2.1 < x871.From)) = true then
 (appM 16 sv699.1 ([(⟨sv699.2.1, x871.From⟩ : Span)] : List Span)).bind fun l905 =>
 span_Minus_j2 sv699 x871 l905
 else
 span_Minus_j2 sv699 x871 sv699.1))
 else
 some (Sum.inr (sv699.1, sv699.2.1)))
noncomputable def span_Minus_j4 (sv31 : ((List Span) × Int)) (out922 : (List Span)) : Option (((List Span) × Int) ⊕ (List Span)) :=
 some (Sum.inl (out922, (w64 (sv31.2 + 1))))
noncomputable def span_Minus_l3 (rv10 : (List Span)) (rv21 : (List Span)) (sv31 : ((List Span) × Int)) : Option (((List Span) × Int) ⊕ (List Span)) :=
 (if (decide (sv31.2 < (rv21.length : Int))) = true then
 (ix rv21 sv31.2).bind fun x687 =>
 (whileM (span_Minus_l6 rv10 x687) (sv31.1, x687.From, 0)).bind fun e825 =>
 (if (decide (e825.2 < x687.To)) = true then
 (appM 16 e825.1 ([(⟨e825.2, x687.To⟩ : Span)] : List Span)).bind fun l927 =>
 span_Minus_j4 sv31 l927
 else
 span_Minus_j4 sv31 e825.1)
 else
 some (Sum.inr sv31.1))
noncomputable def span_Minus (a1 : (List Span)) (b5 : (List Span)) : Option (List Span) :=
 (span_Normal b5).bind fun rv10 =>
 (span_Normal a1).bind fun rv21 =>
 (whileM (span_Minus_l3 rv10 rv21) (([] : List Span), 0)).bind fun e520 =>
 some e520
noncomputable def continuity_Gaps (l1 : (List Record)) (from5 : Int) (to6 : Int) : Option ((List Span) × Int) :=
 (continuity_check l1 from5 to6).bind fun rv8 =>
 (if (rv8 != 0) = true then
 some (([] : List Span), rv8)
 else
 (compose_Covered l1).bind fun rv17 =>
 (span_Minus ([(⟨from5, to6⟩ : Span)] : List Span) rv17.1).bind fun rv30 =>
 some (rv30, 0))
noncomputable def slices_Clone_Lapi_Record_api_Record (s1 : (List Record)) : Option (List Record) :=
 (appM 144 ([] : List Record) s1).bind fun l11 =>
 some l11
noncomputable def slices_Clone_Lint_int (s1 : (List Int)) : Option (List Int) :=
 (appM 8 ([] : List Int) s1).bind fun l11 =>
 some l11
noncomputable def slices_SortFunc_Lapi_Record_api_Record (x1 : (List Record)) (cmp6 : Record → Record → Option Int) : Option (List Record) :=
 sortM x1 cmp6
noncomputable def cmp_isNaN_string (x1 : ByteArray) : Option Bool :=
 some (!(x1.toList == x1.toList))
noncomputable def cmp_Compare_string (x1 : ByteArray) (y2 : ByteArray) : Option Int :=
 (cmp_isNaN_string x1).bind fun rv4 =>
 (cmp_isNaN_string y2).bind fun rv11 =>
 (if rv4 = true then
 (if rv11 = true then
 some 0
 else
 some (-1))
 else
 (if rv11 = true then
 some 1
 else
 (if (Op.bytesLess x1.toList y2.toList) = true then
 some (-1)
 else
 (if (!((Op.bytesLess x1.toList y2.toList) || (x1.toList == y2.toList))) = true then
 some 1
 else
 some 0))))
noncomputable def cmp_Or_int_l2 (vals1 : (List Int)) (sv55 : Int) : Option (Int ⊕ Int) :=
 (if (decide (sv55 < (vals1.length : Int))) = true then
 (ix vals1 sv55).bind fun x125 =>
 (if (x125 != 0) = true then
 some (Sum.inr x125)
 else
 some (Sum.inl (w64 (sv55 + 1))))
 else
 Option.map Sum.inr (some 0))
noncomputable def cmp_Or_int (vals1 : (List Int)) : Option Int :=
 whileM (cmp_Or_int_l2 vals1) (0)
noncomputable def source_Compare (a1 : SourceID) (b2 : SourceID) : Option Int :=
 (cmp_Compare_string a1.Network b2.Network).bind fun rv6 =>
 (cmp_Compare_string a1.Station b2.Station).bind fun rv8 =>
 (cmp_Compare_string a1.Location b2.Location).bind fun rv10 =>
 (cmp_Compare_string a1.Channel b2.Channel).bind fun rv12 =>
 (cmp_Or_int ([rv6, rv8, rv10, rv12] : List Int)).bind fun rv16 =>
 some rv16
noncomputable def record_time (r1 : Record) (i5 : Int) : Option Int :=
 (rate_Time r1.Start r1.Rate (w64 (r1.First + i5))).bind fun rv8 =>
 some rv8.1
noncomputable def record_begin (r1 : Record) : Option Int :=
 (record_Valid r1).bind fun rv7 =>
 (if (!rv7) = true then
 some 0
 else
 (record_time r1 0).bind fun rv16 =>
 some rv16)
noncomputable def slices_Compare_Lint_int_l2 (s1_1 : (List Int)) (s2_5 : (List Int)) (sv122 : Int) : Option (Int ⊕ Int) :=
 (if (decide (sv122 < (s1_1.length : Int))) = true then
 (ix s1_1 sv122).bind fun x276 =>
 (if (decide ((s2_5.length : Int) ≤ sv122)) = true then
 some (Sum.inr 1)
 else
 (ix s2_5 sv122).bind fun x292 =>
 (cmp_Compare_int x276 x292).bind fun rv304 =>
 (if (rv304 != 0) = true then
 some (Sum.inr rv304)
 else
 some (Sum.inl (w64 (sv122 + 1)))))
 else
 Option.map Sum.inr ((if (decide ((s1_1.length : Int) < (s2_5.length : Int))) = true then
 some (-1)
 else
 some 0)))
noncomputable def slices_Compare_Lint_int (s1_1 : (List Int)) (s2_5 : (List Int)) : Option Int :=
 whileM (slices_Compare_Lint_int_l2 s1_1 s2_5) (0)
noncomputable def record_Compare (a1 : Record) (b5 : Record) : Option Int :=
 (source_Compare a1.Source b5.Source).bind fun rv12 =>
 (record_begin a1).bind fun rv14 =>
 (record_begin b5).bind fun rv16 =>
 (cmp_Compare_int rv14 rv16).bind fun rv18 =>
 (cmp_Compare_int a1.Start b5.Start).bind fun rv20 =>
 (cmp_Compare_int a1.First b5.First).bind fun rv22 =>
 (cmp_Compare_int a1.Rate.Num b5.Rate.Num).bind fun rv24 =>
 (cmp_Compare_int a1.Rate.Den b5.Rate.Den).bind fun rv26 =>
 (cmp_Compare_int a1.Error b5.Error).bind fun rv28 =>
 (cmp_Compare_int a1.Run b5.Run).bind fun rv30 =>
 (cmp_Compare_int a1.Seq b5.Seq).bind fun rv32 =>
 (cmp_Compare_int (a1.Samples.length : Int) (b5.Samples.length : Int)).bind fun rv34 =>
 (slices_Compare_Lint_int a1.Samples b5.Samples).bind fun rv36 =>
 (cmp_Or_int ([rv12, rv18, rv20, rv22, rv24, rv26, rv28, rv30, rv32, rv34, rv36] : List Int)).bind fun rv40 =>
 some rv40
noncomputable def slices_CompactFunc_Lapi_Record_api_Record_j1 (sv2183 : ((List Record) × Int × Int)) (sv2527 : (List Record)) (k2528 : Int) : Option (((List Record) × Int × Int) ⊕ ((List Record) × Int)) :=
 (some (w64 (sv2183.2.2 + 1))).bind fun k2_2530 =>
 some (Sum.inl (sv2527, k2528, k2_2530))
noncomputable def slices_CompactFunc_Lapi_Record_api_Record_l11 (eq6 : Record → Record → Option Bool) (sv825 : Int) (l2182 : (List Record)) (sv2183 : ((List Record) × Int × Int)) : Option (((List Record) × Int × Int) ⊕ ((List Record) × Int)) :=
 (if (decide (sv2183.2.2 < (l2182.length : Int))) = true then
 (ixV sv2183.1 sv825 l2182.length sv2183.2.2).bind fun x2468 =>
 (ixV sv2183.1 sv825 l2182.length (w64 (sv2183.2.2 - 1))).bind fun x2480 =>
 (eq6 x2468 x2480).bind fun rv2486 =>
 (if (!rv2486) = true then
 (ixV sv2183.1 sv825 l2182.length sv2183.2.2).bind fun x2539 =>
 (ix sv2183.1 sv2183.2.1).bind fun x2546 =>
 (setM sv2183.1 sv2183.2.1 x2539).bind fun l2558 =>
 (some (w64 (sv2183.2.1 + 1))).bind fun k2563 =>
 slices_CompactFunc_Lapi_Record_api_Record_j1 sv2183 l2558 k2563
 else
 slices_CompactFunc_Lapi_Record_api_Record_j1 sv2183 sv2183.1 sv2183.2.1)
 else
 some (Sum.inr (sv2183.1, sv2183.2.1)))
noncomputable def slices_CompactFunc_Lapi_Record_api_Record_l7 (s1 : (List Record)) (eq6 : Record → Record → Option Bool) (sv825 : Int) : Option (Int ⊕ (List Record)) :=
 (if (decide (sv825 < (s1.length : Int))) = true then
 (ix s1 sv825).bind fun x1909 =>
 (ix s1 (w64 (sv825 - 1))).bind fun x1926 =>
 (eq6 x1909 x1926).bind fun rv1938 =>
 (if rv1938 = true then
 (subM s1 sv825 (s1.length : Int)).bind fun l2182 =>
 (whileM (slices_CompactFunc_Lapi_Record_api_Record_l11 eq6 sv825 l2182) (s1, sv825, 1)).bind fun e2392 =>
 (subM e2392.1 e2392.2 (e2392.1.length : Int)).bind fun l2569 =>
 (some (copyM e2392.1 e2392.2 (e2392.1.length : Int) (List.replicate l2569.length ((⟨(⟨ByteArray.empty, ByteArray.empty, ByteArray.empty, ByteArray.empty⟩ : SourceID), 0, 0, (⟨0, 0⟩ : Rate), 0, 0, 0, ([] : List Int)⟩ : Record) : Record)))).bind fun l2570 =>
 (subM l2570 0 e2392.2).bind fun l2579 =>
 some (Sum.inr l2579)
 else
 (some (w64 (sv825 + 1))).bind fun k2583 =>
 some (Sum.inl k2583))
 else
 Option.map Sum.inr (some s1))
noncomputable def slices_CompactFunc_Lapi_Record_api_Record (s1 : (List Record)) (eq6 : Record → Record → Option Bool) : Option (List Record) :=
 (if (decide ((s1.length : Int) < 2)) = true then
 some s1
 else
 whileM (slices_CompactFunc_Lapi_Record_api_Record_l7 s1 eq6) (1))
noncomputable def slices_Equal_Lint_int_l2 (s1_1 : (List Int)) (s2_5 : (List Int)) (sv103 : Int) : Option (Int ⊕ Bool) :=
 (if (decide (sv103 < (s1_1.length : Int))) = true then
 (ix s1_1 sv103).bind fun x229 =>
 (ix s2_5 sv103).bind fun x242 =>
 (if (x229 != x242) = true then
 some (Sum.inr false)
 else
 some (Sum.inl (w64 (sv103 + 1))))
 else
 Option.map Sum.inr (some true))
noncomputable def slices_Equal_Lint_int (s1_1 : (List Int)) (s2_5 : (List Int)) : Option Bool :=
 (if ((s1_1.length : Int) != (s2_5.length : Int)) = true then
 some false
 else
 whileM (slices_Equal_Lint_int_l2 s1_1 s2_5) (0))
noncomputable def record_Same (a1 : Record) (b5 : Record) : Option Bool :=
 ((if ((((((((a1.Source.Network == b5.Source.Network) && ((a1.Source.Station == b5.Source.Station) && ((a1.Source.Location == b5.Source.Location) && ((a1.Source.Channel == b5.Source.Channel) && true)))) && (a1.Start == b5.Start)) && (a1.First == b5.First)) && ((a1.Rate.Num == b5.Rate.Num) && ((a1.Rate.Den == b5.Rate.Den) && true))) && (a1.Error == b5.Error)) && (a1.Run == b5.Run)) && (a1.Seq == b5.Seq)) = true then
 (slices_Equal_Lint_int a1.Samples b5.Samples).bind fun rv28 =>
 some rv28
 else
 some false)).bind fun c25 =>
 some c25
noncomputable def compose_order_l1 (rv6 : (List Record)) (sv16 : ((List Record) × Int)) : Option (((List Record) × Int) ⊕ (List Record)) :=
 (if (decide (sv16.2 < (rv6.length : Int))) = true then
 (ix sv16.1 sv16.2).bind fun x224 =>
 (slices_Clone_Lint_int x224.Samples).bind fun rv240 =>
 (ix sv16.1 sv16.2).bind fun x252 =>
 (setM sv16.1 sv16.2 (⟨x252.Source, x252.Start, x252.First, x252.Rate, x252.Error, x252.Run, x252.Seq, rv240⟩ : Record)).bind fun l264 =>
 some (Sum.inl (l264, (w64 (sv16.2 + 1))))
 else
 some (Sum.inr sv16.1))
noncomputable def compose_order (l1 : (List Record)) : Option (List Record) :=
 (slices_Clone_Lapi_Record_api_Record l1).bind fun rv6 =>
 (whileM (compose_order_l1 rv6) (rv6, 0)).bind fun e169 =>
 (slices_SortFunc_Lapi_Record_api_Record e169 record_Compare).bind fun rv270 =>
 (slices_CompactFunc_Lapi_Record_api_Record rv270 record_Same).bind fun rv282 =>
 some rv282
noncomputable def compose_Order (l1 : (List Record)) : Option ((List Record) × Int) :=
 (compose_Valid l1).bind fun rv6 =>
 (if (!rv6) = true then
 some (([] : List Record), 1)
 else
 (compose_order l1).bind fun rv15 =>
 some (rv15, 0))
noncomputable def continuity_at (r1 : Record) (i5 : Int) : Option Int :=
 (rate_Time r1.Start r1.Rate (w64 (r1.First + i5))).bind fun rv8 =>
 some rv8.1
noncomputable def slices_Sort_Lint_int (x1 : (List Int)) : Option (List Int) :=
 sortI x1
noncomputable def slices_Compact_Lint_int_j1 (sv1662 : ((List Int) × Int × Int)) (sv1912 : (List Int)) (k1913 : Int) : Option (((List Int) × Int × Int) ⊕ ((List Int) × Int)) :=
 (some (w64 (sv1662.2.2 + 1))).bind fun k2_1915 =>
 some (Sum.inl (sv1912, k1913, k2_1915))
noncomputable def slices_Compact_Lint_int_l11 (sv628 : Int) (l1661 : (List Int)) (sv1662 : ((List Int) × Int × Int)) : Option (((List Int) × Int × Int) ⊕ ((List Int) × Int)) :=
 (if (decide (sv1662.2.2 < (l1661.length : Int))) = true then
 (ixV sv1662.1 sv628 l1661.length sv1662.2.2).bind fun x1875 =>
 (ixV sv1662.1 sv628 l1661.length (w64 (sv1662.2.2 - 1))).bind fun x1883 =>
 (if (x1875 != x1883) = true then
 (ixV sv1662.1 sv628 l1661.length sv1662.2.2).bind fun x1924 =>
 (ix sv1662.1 sv1662.2.1).bind fun x1927 =>
 (setM sv1662.1 sv1662.2.1 x1924).bind fun l1935 =>
 (some (w64 (sv1662.2.1 + 1))).bind fun k1940 =>
 slices_Compact_Lint_int_j1 sv1662 l1935 k1940
 else
 slices_Compact_Lint_int_j1 sv1662 sv1662.1 sv1662.2.1)
 else
 some (Sum.inr (sv1662.1, sv1662.2.1)))
noncomputable def slices_Compact_Lint_int_l7 (s1 : (List Int)) (sv628 : Int) : Option (Int ⊕ (List Int)) :=
 (if (decide (sv628 < (s1.length : Int))) = true then
 (ix s1 sv628).bind fun x1456 =>
 (ix s1 (w64 (sv628 - 1))).bind fun x1469 =>
 (if (x1456 == x1469) = true then
 (subM s1 sv628 (s1.length : Int)).bind fun l1661 =>
 (whileM (slices_Compact_Lint_int_l11 sv628 l1661) (s1, sv628, 1)).bind fun e1817 =>
 (subM e1817.1 e1817.2 (e1817.1.length : Int)).bind fun l1946 =>
 (some (copyM e1817.1 e1817.2 (e1817.1.length : Int) (List.replicate l1946.length (0 : Int)))).bind fun l1947 =>
 (subM l1947 0 e1817.2).bind fun l1956 =>
 some (Sum.inr l1956)
 else
 (some (w64 (sv628 + 1))).bind fun k1960 =>
 some (Sum.inl k1960))
 else
 Option.map Sum.inr (some s1))
noncomputable def slices_Compact_Lint_int (s1 : (List Int)) : Option (List Int) :=
 (if (decide ((s1.length : Int) < 2)) = true then
 some s1
 else
 whileM (slices_Compact_Lint_int_l7 s1) (1))
noncomputable def continuity_borders_j1 (sv453 : ((List Int) × Int)) (out579 : (List Int)) : Option (((List Int) × Int) ⊕ (List Int)) :=
 some (Sum.inl (out579, (w64 (sv453.2 + 1))))
noncomputable def continuity_borders_l6 (from5 : Int) (to6 : Int) (x437 : Record) (sv453 : ((List Int) × Int)) : Option (((List Int) × Int) ⊕ (List Int)) :=
 (if (decide (sv453.2 < (w64 ((x437.Samples.length : Int) + 1)))) = true then
 (continuity_at x437 sv453.2).bind fun rv560 =>
 (if ((decide (from5 < rv560)) && (decide (rv560 < to6))) = true then
 (appM 8 sv453.1 ([rv560] : List Int)).bind fun l584 =>
 continuity_borders_j1 sv453 l584
 else
 continuity_borders_j1 sv453 sv453.1)
 else
 some (Sum.inr sv453.1))
noncomputable def continuity_borders_l3 (l1 : (List Record)) (from5 : Int) (to6 : Int) (sv9 : ((List Int) × Int)) : Option (((List Int) × Int) ⊕ (List Int)) :=
 (if (decide (sv9.2 < (l1.length : Int))) = true then
 (ix l1 sv9.2).bind fun x437 =>
 (whileM (continuity_borders_l6 from5 to6 x437) (sv9.1, 0)).bind fun e531 =>
 some (Sum.inl (e531, (w64 (sv9.2 + 1))))
 else
 some (Sum.inr sv9.1))
noncomputable def continuity_borders (l1 : (List Record)) (from5 : Int) (to6 : Int) : Option (List Int) :=
 (whileM (continuity_borders_l3 l1 from5 to6) (([from5, to6] : List Int), 0)).bind fun e327 =>
 (slices_Sort_Lint_int e327).bind fun rv592 =>
 (slices_Compact_Lint_int rv592).bind fun rv604 =>
 some rv604
noncomputable def rate_check (start1 : Int) (r2 : Rate) (t3 : Int) : Option Int :=
 (rate_Valid r2).bind fun rv6 =>
 (if (!rv6) = true then
 some 1
 else
 (rate_in start1 0 9007199254740992).bind fun rv15 =>
 ((if (!rv15) = true then
 some true
 else
 (rate_in t3 0 18014398509481984).bind fun rv32 =>
 some (!rv32))).bind fun c29 =>
 (if c29 = true then
 some 2
 else
 some 0))
noncomputable def rate_ceil (r1 : Rate) (x2 : Int) : Option Int :=
 (rate_micros r1).bind fun rv5 =>
 (quoM .i64 x2 rv5).bind fun quo12 =>
 (remM x2 rv5).bind fun rem14 =>
 (quoM .i64 (w64 ((w64 ((w64 (rem14 * r1.Num)) + rv5)) - 1)) rv5).bind fun quo16 =>
 (some (w64 ((w64 (quo12 * r1.Num)) + quo16))).bind fun x18 =>
 some x18
noncomputable def rate_upto (r1 : Rate) (x2 : Int) : Option Int :=
 (rate_ceil r1 (w64 (x2 + 1))).bind fun rv5 =>
 (some (w64 (rv5 - 1))).bind fun x12 =>
 some x12
noncomputable def rate_Index (start1 : Int) (r2 : Rate) (t3 : Int) : Option (Int × Int) :=
 (rate_check start1 r2 t3).bind fun rv6 =>
 (if (rv6 != 0) = true then
 some (0, rv6)
 else
 (if (decide (t3 < start1)) = true then
 some ((-1), 0)
 else
 (rate_upto r2 (w64 (t3 - start1))).bind fun rv17 =>
 (some (min rv17 16777216)).bind fun x24 =>
 some (x24, 0)))
noncomputable def continuity_cover (r1 : Record) (t5 : Int) : Option (Int × Int × Bool) :=
 (continuity_at r1 0).bind fun rv8 =>
 ((if (decide (t5 < rv8)) = true then
 some true
 else
 (continuity_at r1 (r1.Samples.length : Int)).bind fun rv25 =>
 some (decide (rv25 ≤ t5)))).bind fun c22 =>
 (if c22 = true then
 some (0, 0, false)
 else
 (rate_Index r1.Start r1.Rate t5).bind fun rv34 =>
 (rate_Time r1.Start r1.Rate rv34.1).bind fun rv41 =>
 (ix r1.Samples (w64 (rv34.1 - r1.First))).bind fun x49 =>
 some (rv41.1, x49, true))
noncomputable def continuity_look_j1 (sv8 : (Int × Bool × Int × Int × Int)) (x164 : Int) (x165 : Bool) (time166 : Int) (value167 : Int) : Option ((Int × Bool × Int × Int × Int) ⊕ (Int × Bool)) :=
 some (Sum.inl (x164, x165, time166, value167, (w64 (sv8.2.2.2.2 + 1))))
noncomputable def continuity_look_j2 (sv8 : (Int × Bool × Int × Int × Int)) (rv187 : (Int × Int × Bool)) (time197 : Int) (value198 : Int) : Option ((Int × Bool × Int × Int × Int) ⊕ (Int × Bool)) :=
 continuity_look_j1 sv8 (w64 (sv8.1 + 1)) ((sv8.2.1 && (rv187.1 == time197)) && (rv187.2.1 == value198)) time197 value198
noncomputable def continuity_look_l1 (l1 : (List Record)) (t5 : Int) (sv8 : (Int × Bool × Int × Int × Int)) : Option ((Int × Bool × Int × Int × Int) ⊕ (Int × Bool)) :=
 (if (decide (sv8.2.2.2.2 < (l1.length : Int))) = true then
 (ix l1 sv8.2.2.2.2).bind fun x170 =>
 (continuity_cover x170 t5).bind fun rv187 =>
 (if (!rv187.2.2) = true then
 continuity_look_j1 sv8 sv8.1 sv8.2.1 sv8.2.2.1 sv8.2.2.2.1
 else
 (if ((w64 (sv8.1 + 1)) == 1) = true then
 continuity_look_j2 sv8 rv187 rv187.1 rv187.2.1
 else
 continuity_look_j2 sv8 rv187 sv8.2.2.1 sv8.2.2.2.1))
 else
 some (Sum.inr (sv8.1, sv8.2.1)))
noncomputable def continuity_look (l1 : (List Record)) (t5 : Int) : Option Continuity_state :=
 (whileM (continuity_look_l1 l1 t5) (0, true, 0, 0, 0)).bind fun e127 =>
 some (⟨e127.1, e127.2⟩ : Continuity_state)
noncomputable def continuity_Overlaps_j1 (sv39 : ((List Overlap) × Int)) (out557 : (List Overlap)) : Option (((List Overlap) × Int) ⊕ (List Overlap)) :=
 (some (w64 (sv39.2 + 1))).bind fun i559 =>
 some (Sum.inl (out557, i559))
noncomputable def continuity_Overlaps_j2 (sv39 : ((List Overlap) × Int)) (out719 : (List Overlap)) : Option (((List Overlap) × Int) ⊕ (List Overlap)) :=
 continuity_Overlaps_j1 sv39 out719
noncomputable def continuity_Overlaps_l1 (rv17 : ((List Record) × Int)) (rv28 : (List Int)) (sv39 : ((List Overlap) × Int)) : Option (((List Overlap) × Int) ⊕ (List Overlap)) :=
 (if (decide ((w64 (sv39.2 + 1)) < (rv28.length : Int))) = true then
 (ix rv28 sv39.2).bind fun x562 =>
 (continuity_look rv17.1 x562).bind fun rv574 =>
 (if (decide (rv574.depth_ < 2)) = true then
 continuity_Overlaps_j1 sv39 sv39.1
 else
 (some (sv39.1.length : Int)).bind fun n584 =>
 (if (decide (0 < n584)) = true then
 (ix sv39.1 (w64 (n584 - 1))).bind fun x587 =>
 (ix rv28 sv39.2).bind fun x600 =>
 some (x587.To == x600)
 else
 some false).bind fun c607 =>
 (if c607 = true then
 (ix sv39.1 (w64 (n584 - 1))).bind fun x610 =>
 some (x610.Same == rv574.same_)
 else
 some false).bind fun c621 =>
 (if c621 = true then
 (ix rv28 (w64 (sv39.2 + 1))).bind fun x723 =>
 (ix sv39.1 (w64 (n584 - 1))).bind fun x732 =>
 (setM sv39.1 (w64 (n584 - 1)) (⟨x732.From, x723, x732.Same⟩ : Overlap)).bind fun l744 =>
 continuity_Overlaps_j2 sv39 l744
 else
 (ix rv28 sv39.2).bind fun x749 =>
 (ix rv28 (w64 (sv39.2 + 1))).bind fun x758 =>
 (appM 24 sv39.1 ([(⟨x749, x758, rv574.same_⟩ : Overlap)] : List Overlap)).bind fun l768 =>
 continuity_Overlaps_j2 sv39 l768))
 else
 some (Sum.inr sv39.1))
noncomputable def continuity_Overlaps (l1 : (List Record)) (from5 : Int) (to6 : Int) : Option ((List Overlap) × Int) :=
 (continuity_check l1 from5 to6).bind fun rv8 =>
 (if (rv8 != 0) = true then
 some (([] : List Overlap), rv8)
 else
 (compose_Order l1).bind fun rv17 =>
 (continuity_borders rv17.1 from5 to6).bind fun rv28 =>
 (whileM (continuity_Overlaps_l1 rv17 rv28) (([] : List Overlap), 0)).bind fun e426 =>
 (if (decide (4096 < (e426.length : Int))) = true then
 some (([] : List Overlap), 8)
 else
 some (e426, 0)))
noncomputable def ref08_Same_l2 (a1 : (List Span)) (b5 : (List Span)) (sv109 : Int) : Option (Int ⊕ Bool) :=
 (if (decide (sv109 < (a1.length : Int))) = true then
 (ix a1 sv109).bind fun x241 =>
 (ix b5 sv109).bind fun x254 =>
 (if (!((x241.From == x254.From) && ((x241.To == x254.To) && true))) = true then
 some (Sum.inr false)
 else
 (some (w64 (sv109 + 1))).bind fun i270 =>
 some (Sum.inl i270))
 else
 Option.map Sum.inr (some true))
noncomputable def ref08_Same (a1 : (List Span)) (b5 : (List Span)) : Option Bool :=
 (if ((a1.length : Int) != (b5.length : Int)) = true then
 some false
 else
 whileM (ref08_Same_l2 a1 b5) (0))
noncomputable def law16_sane : Option Bool :=
 (some ([(⟨(⟨(⟨#[65]⟩ : ByteArray), (⟨#[66]⟩ : ByteArray), ByteArray.empty, (⟨#[72, 72, 90]⟩ : ByteArray)⟩ : SourceID), 0, 0, (⟨1, 10⟩ : Rate), 0, 0, 0, ([1] : List Int)⟩ : Record), (⟨(⟨(⟨#[65]⟩ : ByteArray), (⟨#[66]⟩ : ByteArray), ByteArray.empty, (⟨#[72, 72, 90]⟩ : ByteArray)⟩ : SourceID), 20000000, 0, (⟨1, 10⟩ : Rate), 0, 0, 0, ([1] : List Int)⟩ : Record), (⟨(⟨(⟨#[65]⟩ : ByteArray), (⟨#[66]⟩ : ByteArray), ByteArray.empty, (⟨#[72, 72, 90]⟩ : ByteArray)⟩ : SourceID), 0, 0, (⟨1, 10⟩ : Rate), 0, 0, 1, ([1] : List Int)⟩ : Record)] : List Record)).bind fun l12 =>
 (continuity_Gaps l12 0 30000000).bind fun rv18 =>
 (continuity_Overlaps l12 0 30000000).bind fun rv30 =>
 ((if ((rv18.2 == 0) && (rv30.2 == 0)) = true then
 (ref08_Same rv18.1 ([(⟨10000000, 20000000⟩ : Span)] : List Span)).bind fun rv56 =>
 some rv56
 else
 some false)).bind fun c51 =>
 ((if (c51 && ((rv30.1.length : Int) == 1)) = true then
 (ix rv30.1 0).bind fun x81 =>
 some ((x81.From == 0) && ((x81.To == 10000000) && ((x81.Same == true) && true)))
 else
 some false)).bind fun c77 =>
 some c77
noncomputable def made_Roll (l1 : (List Int)) : Option Dice :=
 some (⟨l1, 0⟩ : Dice)
noncomputable def made_Dice_Next_j1 (d1 : Dice) (x30 : Int) : Option (Int × Dice) :=
 some (x30, (⟨d1.L, (w64 (d1.At + 1))⟩ : Dice))
noncomputable def made_Dice_Next (d1 : Dice) (n6 : Int) : Option (Int × Dice) :=
 (if ((decide ((d1.L.length : Int) ≤ d1.At)) || (decide (n6 < 1))) = true then
 some (0, d1)
 else
 (ix d1.L d1.At).bind fun x12 =>
 (remM x12 n6).bind fun rem24 =>
 (if (decide (rem24 < 0)) = true then
 (some (w64 (rem24 + n6))).bind fun x33 =>
 made_Dice_Next_j1 d1 x33
 else
 made_Dice_Next_j1 d1 rem24))
noncomputable def made_Dice_Source (d1 : Dice) : Option (SourceID × Dice) :=
 (made_Dice_Next d1 3).bind fun rv10 =>
 (ix ([(⟨#[71, 82]⟩ : ByteArray), (⟨#[88]⟩ : ByteArray), (⟨#[55, 65]⟩ : ByteArray)] : List ByteArray) rv10.1).bind fun x16 =>
 (made_Dice_Next rv10.2 4).bind fun rv26 =>
 (ix ([(⟨#[70, 85, 82]⟩ : ByteArray), (⟨#[65]⟩ : ByteArray), (⟨#[65, 66, 67, 68, 69]⟩ : ByteArray), (⟨#[70, 85]⟩ : ByteArray)] : List ByteArray) rv26.1).bind fun x32 =>
 (made_Dice_Next rv26.2 3).bind fun rv42 =>
 (ix ([(⟨#[]⟩ : ByteArray), (⟨#[48, 48]⟩ : ByteArray), (⟨#[49, 48]⟩ : ByteArray)] : List ByteArray) rv42.1).bind fun x48 =>
 (made_Dice_Next rv42.2 3).bind fun rv58 =>
 (ix ([(⟨#[72, 72, 90]⟩ : ByteArray), (⟨#[72, 72, 78]⟩ : ByteArray), (⟨#[66, 72, 90]⟩ : ByteArray)] : List ByteArray) rv58.1).bind fun x64 =>
 some ((⟨x16, x32, x48, x64⟩ : SourceID), rv58.2)
noncomputable def made_Dice_Pick (d1 : Dice) (l6 : (List Int)) : Option (Int × Dice) :=
 (made_Dice_Next d1 (l6.length : Int)).bind fun rv11 =>
 (ix l6 rv11.1).bind fun x22 =>
 some (x22, rv11.2)
noncomputable def ref01_In (n1 : Int) (lo2 : Int) (hi3 : Int) : Option Bool :=
 some ((decide (lo2 ≤ n1)) && (decide (n1 ≤ hi3)))
noncomputable def ref02_gcd_l1 (sv3 : (Int × Int)) : Option ((Int × Int) ⊕ Int) :=
 (if (sv3.2 != 0) = true then
 (remM sv3.1 sv3.2).bind fun rem29 =>
 some (Sum.inl (sv3.2, rem29))
 else
 some (Sum.inr sv3.1))
noncomputable def ref02_gcd (a1 : Int) (b2 : Int) : Option Int :=
 (whileM (ref02_gcd_l1) (a1, b2)).bind fun e21 =>
 some e21
noncomputable def ref02_New (num1 : Int) (den2 : Int) : Option (Rate × Int) :=
 (ref01_In num1 1 4096).bind fun rv5 =>
 ((if (!rv5) = true then
 some true
 else
 (ref01_In den2 1 4096).bind fun rv22 =>
 some (!rv22))).bind fun c19 =>
 (if c19 = true then
 some ((⟨0, 0⟩ : Rate), 2)
 else
 (ref02_gcd num1 den2).bind fun rv31 =>
 (quoM .i64 num1 rv31).bind fun quo38 =>
 (quoM .i64 den2 rv31).bind fun quo40 =>
 some ((⟨quo38, quo40⟩ : Rate), 0))
noncomputable def made_Dice_Record_l1 (sv168 : ((List Int) × Int × (List Int) × Int)) : Option (((List Int) × Int × (List Int) × Int) ⊕ ((List Int) × Int × (List Int))) :=
 (if (decide (0 < sv168.2.2.2)) = true then
 (made_Dice_Next (⟨sv168.1, sv168.2.1⟩ : Dice) 4).bind fun rv255 =>
 (appM 8 sv168.2.2.1 ([rv255.1] : List Int)).bind fun l262 =>
 (some (w64 (sv168.2.2.2 - 1))).bind fun i278 =>
 some (Sum.inl (rv255.2.L, rv255.2.At, l262, i278))
 else
 some (Sum.inr (sv168.1, sv168.2.1, sv168.2.2.1)))
noncomputable def made_Dice_Record (d1 : Dice) (s6 : SourceID) (n7 : Int) : Option (Record × Dice) :=
 (made_Dice_Pick d1 ([1, 2, 2, 3] : List Int)).bind fun rv13 =>
 (made_Dice_Pick rv13.2 ([1, 1, 1, 3] : List Int)).bind fun rv26 =>
 (ref02_New rv13.1 rv26.1).bind fun rv37 =>
 (made_Dice_Next rv26.2 40).bind fun rv45 =>
 (made_Dice_Pick rv45.2 ([0, 0, 3] : List Int)).bind fun rv52 =>
 (made_Dice_Pick rv52.2 ([0, 0, 10, 500] : List Int)).bind fun rv59 =>
 (made_Dice_Next rv59.2 2).bind fun rv64 =>
 (made_Dice_Next rv64.2 6).bind fun rv69 =>
 (made_Dice_Next rv69.2 n7).bind fun rv157 =>
 (some (w64 (1 + rv157.1))).bind fun i167 =>
 (whileM (made_Dice_Record_l1) (rv157.2.L, rv157.2.At, ([] : List Int), i167)).bind fun e232 =>
 some ((⟨s6, (w64 (1000000000000 + (w64 (250000 * rv45.1)))), rv52.1, rv37.1, rv59.1, rv64.1, rv69.1, e232.2.2⟩ : Record), (⟨e232.1, e232.2.1⟩ : Dice))
noncomputable def made_Dice_Records_j1 (sv28 : ((List Int) × Int × (List Record) × Int)) (x576 : (List Int)) (x577 : Int) (x578 : ByteArray) (x579 : ByteArray) (x580 : ByteArray) (x581 : ByteArray) (x582 : Int) (x583 : Int) (x584 : Int) (x585 : Int) (x586 : Int) (x587 : Int) (x588 : Int) (x589 : (List Int)) : Option (((List Int) × Int × (List Record) × Int) ⊕ ((List Int) × Int × (List Record))) :=
 (appM 144 sv28.2.2.1 ([(⟨(⟨x578, x579, x580, x581⟩ : SourceID), x582, x583, (⟨x584, x585⟩ : Rate), x586, x587, x588, x589⟩ : Record)] : List Record)).bind fun l593 =>
 (some (w64 (sv28.2.2.2 - 1))).bind fun i598 =>
 some (Sum.inl (x576, x577, l593, i598))
noncomputable def made_Dice_Records_l1 (rv8 : (SourceID × Dice)) (sv28 : ((List Int) × Int × (List Record) × Int)) : Option (((List Int) × Int × (List Record) × Int) ⊕ ((List Int) × Int × (List Record))) :=
 (if (decide (0 < sv28.2.2.2)) = true then
 (made_Dice_Record (⟨sv28.1, sv28.2.1⟩ : Dice) rv8.1 6).bind fun rv491 =>
 ((if (decide (0 < (sv28.2.2.1.length : Int))) = true then
 (made_Dice_Next rv491.2 5).bind fun rv521 =>
 some (rv521.2.L, rv521.2.At, (rv521.1 == 0))
 else
 some (rv491.2.L, rv491.2.At, false))).bind fun c516 =>
 (if c516.2.2 = true then
 (made_Dice_Next (⟨c516.1, c516.2.1⟩ : Dice) (sv28.2.2.1.length : Int)).bind fun rv601 =>
 (ix sv28.2.2.1 rv601.1).bind fun x612 =>
 (made_Dice_Pick rv601.2 ([x612.Seq, 9] : List Int)).bind fun rv630 =>
 made_Dice_Records_j1 sv28 rv630.2.L rv630.2.At x612.Source.Network x612.Source.Station x612.Source.Location x612.Source.Channel x612.Start x612.First x612.Rate.Num x612.Rate.Den x612.Error x612.Run rv630.1 x612.Samples
 else
 made_Dice_Records_j1 sv28 c516.1 c516.2.1 rv491.1.Source.Network rv491.1.Source.Station rv491.1.Source.Location rv491.1.Source.Channel rv491.1.Start rv491.1.First rv491.1.Rate.Num rv491.1.Rate.Den rv491.1.Error rv491.1.Run rv491.1.Seq rv491.1.Samples)
 else
 some (Sum.inr (sv28.1, sv28.2.1, sv28.2.2.1)))
noncomputable def made_Dice_Records (d1 : Dice) (n6 : Int) : Option ((List Record) × Dice) :=
 (made_Dice_Source d1).bind fun rv8 =>
 (made_Dice_Next rv8.2 (w64 (n6 + 1))).bind fun rv19 =>
 (whileM (made_Dice_Records_l1 rv8) (rv19.2.L, rv19.2.At, ([] : List Record), rv19.1)).bind fun e374 =>
 some (e374.2.2, (⟨e374.1, e374.2.1⟩ : Dice))
noncomputable def continuity_Depth_j1 (sv17 : (Int × Int)) (n179 : Int) : Option ((Int × Int) ⊕ Int) :=
 some (Sum.inl (n179, (w64 (sv17.2 + 1))))
noncomputable def continuity_Depth_l1 (t5 : Int) (rv7 : ((List Record) × Int)) (sv17 : (Int × Int)) : Option ((Int × Int) ⊕ Int) :=
 (if (decide (sv17.2 < (rv7.1.length : Int))) = true then
 (ix rv7.1 sv17.2).bind fun x152 =>
 (continuity_cover x152 t5).bind fun rv169 =>
 (if rv169.2.2 = true then
 (some (w64 (sv17.1 + 1))).bind fun n182 =>
 continuity_Depth_j1 sv17 n182
 else
 continuity_Depth_j1 sv17 sv17.1)
 else
 some (Sum.inr sv17.1))
noncomputable def continuity_Depth (l1 : (List Record)) (t5 : Int) : Option Int :=
 (compose_Order l1).bind fun rv7 =>
 (whileM (continuity_Depth_l1 t5 rv7) (0, 0)).bind fun e116 =>
 some e116
noncomputable def ref03_code_l2 (s1 : ByteArray) (lo2 : Int) (hi3 : Int) (sv111 : Int) : Option (Int ⊕ Bool) :=
 (if (decide (sv111 < (s1.size : Int))) = true then
 (byteAt s1 sv111).bind fun c254 =>
 ((if (decide (65 ≤ c254)) = true then
 (byteAt s1 sv111).bind fun c261 =>
 some (decide (c261 ≤ 90))
 else
 some false)).bind fun c258 =>
 ((if c258 = true then
 some true
 else
 (byteAt s1 sv111).bind fun c275 =>
 ((if (decide (48 ≤ c275)) = true then
 (byteAt s1 sv111).bind fun c282 =>
 some (decide (c282 ≤ 57))
 else
 some false)).bind fun c279 =>
 some c279)).bind fun c272 =>
 (if (!c272) = true then
 some (Sum.inr false)
 else
 (some (w64 (sv111 + 1))).bind fun i287 =>
 some (Sum.inl i287))
 else
 Option.map Sum.inr (some ((decide (lo2 ≤ (s1.size : Int))) && (decide ((s1.size : Int) ≤ hi3)))))
noncomputable def ref03_code (s1 : ByteArray) (lo2 : Int) (hi3 : Int) : Option Bool :=
 whileM (ref03_code_l2 s1 lo2 hi3) (0)
noncomputable def ref03_Valid (s1 : SourceID) : Option Bool :=
 (ref03_code s1.Network 1 2).bind fun rv4 =>
 ((if rv4 = true then
 (ref03_code s1.Station 1 5).bind fun rv21 =>
 some rv21
 else
 some false)).bind fun c18 =>
 ((if c18 = true then
 ((if (s1.Location.toList == (⟨#[]⟩ : ByteArray).toList) = true then
 some true
 else
 (ref03_code s1.Location 2 2).bind fun rv58 =>
 some rv58)).bind fun c55 =>
 some c55
 else
 some false)).bind fun c45 =>
 ((if c45 = true then
 (ref03_code s1.Channel 3 3).bind fun rv75 =>
 some rv75
 else
 some false)).bind fun c72 =>
 some c72
noncomputable def ref02_Valid (r1 : Rate) : Option Bool :=
 (ref01_In r1.Num 1 4096).bind fun rv4 =>
 ((if rv4 = true then
 (ref01_In r1.Den 1 4096).bind fun rv21 =>
 some rv21
 else
 some false)).bind fun c18 =>
 ((if c18 = true then
 (ref02_gcd r1.Num r1.Den).bind fun rv38 =>
 some (rv38 == 1)
 else
 some false)).bind fun c35 =>
 some c35
noncomputable def ref05_Sample (n1 : Int) : Option Bool :=
 (ref01_In n1 (-1073741823) 1073741823).bind fun rv3 =>
 some rv3
noncomputable def ref05_InRange_l2 (l1 : (List Int)) (sv82 : Int) : Option (Int ⊕ Bool) :=
 (if (decide (sv82 < (l1.length : Int))) = true then
 (ix l1 sv82).bind fun x186 =>
 (ref05_Sample x186).bind fun rv198 =>
 (if (!rv198) = true then
 some (Sum.inr false)
 else
 (some (w64 (sv82 + 1))).bind fun i208 =>
 some (Sum.inl i208))
 else
 Option.map Sum.inr (some true))
noncomputable def ref05_InRange (l1 : (List Int)) : Option Bool :=
 whileM (ref05_InRange_l2 l1) (0)
noncomputable def ref02_Time (start1 : Int) (r2 : Rate) (k3 : Int) : Option (Int × Int) :=
 (ref02_Valid r2).bind fun rv6 =>
 (if (!rv6) = true then
 some (0, 1)
 else
 (ref01_In start1 0 9007199254740992).bind fun rv15 =>
 ((if (!rv15) = true then
 some true
 else
 (ref01_In k3 0 16777216).bind fun rv32 =>
 some (!rv32))).bind fun c29 =>
 (if c29 = true then
 some (0, 2)
 else
 (quoM .i64 (w64 ((w64 (k3 * r2.Den)) * 1000000)) r2.Num).bind fun quo41 =>
 (some (w64 (start1 + quo41))).bind fun x43 =>
 some (x43, 0)))
noncomputable def ref14_Time (r1 : Record) (i5 : Int) : Option Int :=
 (ref02_Time r1.Start r1.Rate (w64 (r1.First + i5))).bind fun rv8 =>
 some rv8.1
noncomputable def ref14_Valid (r1 : Record) : Option Bool :=
 (ref03_Valid r1.Source).bind fun rv7 =>
 ((if (!rv7) = true then
 some true
 else
 (ref02_Valid r1.Rate).bind fun rv24 =>
 some (!rv24))).bind fun c21 =>
 ((if c21 = true then
 some true
 else
 (ref01_In r1.Start 0 9007199254740992).bind fun rv41 =>
 some (!rv41))).bind fun c38 =>
 ((if c38 = true then
 some true
 else
 (ref01_In r1.First 0 16777216).bind fun rv58 =>
 some (!rv58))).bind fun c55 =>
 ((if c55 = true then
 some true
 else
 (ref01_In (r1.Samples.length : Int) 1 65536).bind fun rv75 =>
 some (!rv75))).bind fun c72 =>
 ((if (c72 || (decide (16777216 < (w64 (r1.First + (r1.Samples.length : Int)))))) = true then
 some true
 else
 (ref05_InRange r1.Samples).bind fun rv93 =>
 some (!rv93))).bind fun c90 =>
 (if c90 = true then
 some false
 else
 (ref01_In r1.Error 0 1099511627776).bind fun rv102 =>
 ((if rv102 = true then
 (ref01_In r1.Run 0 65535).bind fun rv119 =>
 some rv119
 else
 some false)).bind fun c116 =>
 ((if c116 = true then
 (ref01_In r1.Seq 0 1073741824).bind fun rv136 =>
 some rv136
 else
 some false)).bind fun c133 =>
 ((if c133 = true then
 (ref14_Time r1 (r1.Samples.length : Int)).bind fun rv153 =>
 some (decide (rv153 ≤ 9007199254740992))
 else
 some false)).bind fun c150 =>
 some c150)
noncomputable def ref15_fine_l2 (l1 : (List Record)) (sv157 : Int) : Option (Int ⊕ Bool) :=
 (if (decide (sv157 < (l1.length : Int))) = true then
 (ix l1 sv157).bind fun x361 =>
 (ref14_Valid x361).bind fun rv377 =>
 (if (!rv377) = true then
 some true
 else
 (ix l1 sv157).bind fun x380 =>
 (ix l1 0).bind fun x392 =>
 some (!((x380.Source.Network == x392.Source.Network) && ((x380.Source.Station == x392.Source.Station) && ((x380.Source.Location == x392.Source.Location) && ((x380.Source.Channel == x392.Source.Channel) && true)))))).bind fun c402 =>
 (if c402 = true then
 some (Sum.inr false)
 else
 (some (w64 (sv157 + 1))).bind fun i445 =>
 some (Sum.inl i445))
 else
 Option.map Sum.inr (some true))
noncomputable def ref15_fine (l1 : (List Record)) : Option Bool :=
 whileM (ref15_fine_l2 l1) (0)
noncomputable def ref15_Valid (l1 : (List Record)) : Option Bool :=
 ((if (decide ((l1.length : Int) ≤ 256)) = true then
 (ref15_fine l1).bind fun rv16 =>
 some rv16
 else
 some false)).bind fun c13 =>
 some c13
noncomputable def ref03_compare (a1 : ByteArray) (b2 : ByteArray) : Option Int :=
 (if (Op.bytesLess a1.toList b2.toList) = true then
 some (-1)
 else
 (if (!((Op.bytesLess a1.toList b2.toList) || (a1.toList == b2.toList))) = true then
 some 1
 else
 some 0))
noncomputable def ref03_Compare_l2 (rv6 : Int) (rv8 : Int) (rv10 : Int) (rv12 : Int) (sv51 : Int) : Option (Int ⊕ Int) :=
 (if (decide (sv51 < 4)) = true then
 (ix ([rv6, rv8, rv10, rv12] : List Int) sv51).bind fun x76 =>
 (if (x76 != 0) = true then
 some (Sum.inr x76)
 else
 some (Sum.inl (w64 (sv51 + 1))))
 else
 Option.map Sum.inr (some 0))
noncomputable def ref03_Compare (a1 : SourceID) (b2 : SourceID) : Option Int :=
 (ref03_compare a1.Network b2.Network).bind fun rv6 =>
 (ref03_compare a1.Station b2.Station).bind fun rv8 =>
 (ref03_compare a1.Location b2.Location).bind fun rv10 =>
 (ref03_compare a1.Channel b2.Channel).bind fun rv12 =>
 whileM (ref03_Compare_l2 rv6 rv8 rv10 rv12) (0)
noncomputable def ref14_number (a1 : Int) (b2 : Int) : Option Int :=
 (if (decide (a1 < b2)) = true then
 some (-1)
 else
 (if (decide (b2 < a1)) = true then
 some 1
 else
 some 0))
noncomputable def ref14_Compare_l4 (a1 : Record) (b5 : Record) (sv266 : Int) : Option (Int ⊕ Int) :=
 (if (decide (sv266 < (a1.Samples.length : Int))) = true then
 (ix a1.Samples sv266).bind fun x406 =>
 (ix b5.Samples sv266).bind fun x419 =>
 (ref14_number x406 x419).bind fun rv431 =>
 (if (rv431 != 0) = true then
 some (Sum.inr rv431)
 else
 (some (w64 (sv266 + 1))).bind fun i442 =>
 some (Sum.inl i442))
 else
 Option.map Sum.inr (some 0))
noncomputable def ref14_Compare_l2 (a1 : Record) (b5 : Record) (rv46 : Int) (rv48 : Int) (rv50 : Int) (rv52 : Int) (rv54 : Int) (rv56 : Int) (rv58 : Int) (rv60 : Int) (rv62 : Int) (rv64 : Int) (sv133 : Int) : Option (Int ⊕ Int) :=
 (if (decide (sv133 < 10)) = true then
 (ix ([rv46, rv48, rv50, rv52, rv54, rv56, rv58, rv60, rv62, rv64] : List Int) sv133).bind fun x158 =>
 (if (x158 != 0) = true then
 some (Sum.inr x158)
 else
 some (Sum.inl (w64 (sv133 + 1))))
 else
 Option.map Sum.inr (whileM (ref14_Compare_l4 a1 b5) (0)))
noncomputable def ref14_Compare_j2 (a1 : Record) (b5 : Record) (x27 : Int) (y44 : Int) : Option Int :=
 (ref03_Compare a1.Source b5.Source).bind fun rv46 =>
 (ref14_number x27 y44).bind fun rv48 =>
 (ref14_number a1.Start b5.Start).bind fun rv50 =>
 (ref14_number a1.First b5.First).bind fun rv52 =>
 (ref14_number a1.Rate.Num b5.Rate.Num).bind fun rv54 =>
 (ref14_number a1.Rate.Den b5.Rate.Den).bind fun rv56 =>
 (ref14_number a1.Error b5.Error).bind fun rv58 =>
 (ref14_number a1.Run b5.Run).bind fun rv60 =>
 (ref14_number a1.Seq b5.Seq).bind fun rv62 =>
 (ref14_number (a1.Samples.length : Int) (b5.Samples.length : Int)).bind fun rv64 =>
 whileM (ref14_Compare_l2 a1 b5 rv46 rv48 rv50 rv52 rv54 rv56 rv58 rv60 rv62 rv64) (0)
noncomputable def ref14_Compare_j1 (a1 : Record) (b5 : Record) (x27 : Int) : Option Int :=
 (ref14_Valid b5).bind fun rv29 =>
 (if rv29 = true then
 (ref14_Time b5 0).bind fun rv449 =>
 ref14_Compare_j2 a1 b5 x27 rv449
 else
 ref14_Compare_j2 a1 b5 x27 0)
noncomputable def ref14_Compare (a1 : Record) (b5 : Record) : Option Int :=
 (ref14_Valid a1).bind fun rv12 =>
 (if rv12 = true then
 (ref14_Time a1 0).bind fun rv457 =>
 ref14_Compare_j1 a1 b5 rv457
 else
 ref14_Compare_j1 a1 b5 0)
noncomputable def ref15_order_j1 (sv5 : ((List Record) × Int)) (out1028 : (List Record)) : Option (((List Record) × Int) ⊕ (List Record)) :=
 (some (w64 (sv5.2 + 1))).bind fun i1030 =>
 some (Sum.inl (out1028, i1030))
noncomputable def ref15_order_l6 (l1 : (List Record)) (sv5 : ((List Record) × Int)) (sv1033 : Int) : Option (Int ⊕ Int) :=
 (if (decide (0 < sv1033)) = true then
 (ix sv5.1 (w64 (sv1033 - 1))).bind fun x1166 =>
 (ix l1 sv5.2).bind fun x1183 =>
 (ref14_Compare x1166 x1183).bind fun rv1199 =>
 some (decide (0 < rv1199))
 else
 some false).bind fun c1200 =>
 (if c1200 = true then
 (some (w64 (sv1033 - 1))).bind fun k1251 =>
 some (Sum.inl k1251)
 else
 some (Sum.inr sv1033))
noncomputable def ref15_order_l3 (l1 : (List Record)) (sv5 : ((List Record) × Int)) : Option (((List Record) × Int) ⊕ (List Record)) :=
 (if (decide (sv5.2 < (l1.length : Int))) = true then
 (some (sv5.1.length : Int)).bind fun k1032 =>
 (whileM (ref15_order_l6 l1 sv5) (k1032)).bind fun e1162 =>
 (if (decide (0 < e1162)) = true then
 (ix sv5.1 (w64 (e1162 - 1))).bind fun x1255 =>
 (ix l1 sv5.2).bind fun x1272 =>
 (ref14_Compare x1255 x1272).bind fun rv1288 =>
 some (rv1288 == 0)
 else
 some false).bind fun c1289 =>
 (if c1289 = true then
 ref15_order_j1 sv5 sv5.1
 else
 (ix l1 sv5.2).bind fun x1339 =>
 (appM 144 sv5.1 ([x1339] : List Record)).bind fun l1357 =>
 (subM l1357 (w64 (e1162 + 1)) (l1357.length : Int)).bind fun l1365 =>
 (subM l1357 e1162 (l1357.length : Int)).bind fun l1370 =>
 (some (copyM l1357 (w64 (e1162 + 1)) (l1357.length : Int) l1370)).bind fun l1371 =>
 (ix l1 sv5.2).bind fun x1381 =>
 (ix l1371 e1162).bind fun x1393 =>
 (setM l1371 e1162 x1381).bind fun l1409 =>
 ref15_order_j1 sv5 l1409)
 else
 some (Sum.inr sv5.1))
noncomputable def ref15_order (l1 : (List Record)) : Option (List Record) :=
 (whileM (ref15_order_l3 l1) (([] : List Record), 0)).bind fun e773 =>
 some e773
noncomputable def ref15_Order (l1 : (List Record)) : Option ((List Record) × Int) :=
 (ref15_Valid l1).bind fun rv6 =>
 (if (!rv6) = true then
 some (([] : List Record), 1)
 else
 (ref15_order l1).bind fun rv15 =>
 some (rv15, 0))
noncomputable def ref14_At (r1 : Record) (i5 : Int) : Option (Int × Int) :=
 (ref14_Valid r1).bind fun rv8 =>
 (if (!rv8) = true then
 some (0, 1)
 else
 (ref01_In i5 0 (r1.Samples.length : Int)).bind fun rv17 =>
 (if (!rv17) = true then
 some (0, 2)
 else
 (ref14_Time r1 i5).bind fun rv26 =>
 some (rv26, 0)))
noncomputable def law16_ContinuitySame_j1 (sv15362 : (Int × Int × Int × Bool × Int)) (x15543 : Int) (x15544 : Int) (count15545 : Int) (same15546 : Bool) : Option ((Int × Int × Int × Bool × Int) ⊕ (Int × Int × Int × Bool)) :=
 some (Sum.inl (x15543, x15544, count15545, same15546, (w64 (sv15362.2.2.2.2 + 1))))
noncomputable def law16_ContinuitySame_j2 (sv15362 : (Int × Int × Int × Bool × Int)) (rv15548 : (Int × Int)) (x15566 : Int) (x15580 : Int) (x15581 : Int) : Option ((Int × Int × Int × Bool × Int) ⊕ (Int × Int × Int × Bool)) :=
 (some (w64 (sv15362.2.2.1 + 1))).bind fun count15584 =>
 law16_ContinuitySame_j1 sv15362 x15580 x15581 count15584 (sv15362.2.2.2.1 && ((rv15548.1 == x15580) && ((x15566 == x15581) && true)))
noncomputable def law16_ContinuitySame_l129 (x14693 : Int) (x15346 : Record) (sv15362 : (Int × Int × Int × Bool × Int)) : Option ((Int × Int × Int × Bool × Int) ⊕ (Int × Int × Int × Bool)) :=
 (if (decide (sv15362.2.2.2.2 < (x15346.Samples.length : Int))) = true then
 (ref14_At x15346 sv15362.2.2.2.2).bind fun rv15548 =>
 (ref14_At x15346 (w64 (sv15362.2.2.2.2 + 1))).bind fun rv15555 =>
 (if ((decide (x14693 < rv15548.1)) || (decide (rv15555.1 ≤ x14693))) = true then
 law16_ContinuitySame_j1 sv15362 sv15362.1 sv15362.2.1 sv15362.2.2.1 sv15362.2.2.2.1
 else
 (ix x15346.Samples sv15362.2.2.2.2).bind fun x15566 =>
 (if (sv15362.2.2.1 == 0) = true then
 law16_ContinuitySame_j2 sv15362 rv15548 x15566 rv15548.1 x15566
 else
 law16_ContinuitySame_j2 sv15362 rv15548 x15566 sv15362.1 sv15362.2.1))
 else
 some (Sum.inr (sv15362.1, sv15362.2.1, sv15362.2.2.1, sv15362.2.2.2.1)))
noncomputable def law16_ContinuitySame_l126 (rv69 : ((List Record) × Int)) (x14693 : Int) (sv14701 : (Int × Int × Int × Bool × Int)) : Option ((Int × Int × Int × Bool × Int) ⊕ (Int × Bool)) :=
 (if (decide (sv14701.2.2.2.2 < (rv69.1.length : Int))) = true then
 (ix rv69.1 sv14701.2.2.2.2).bind fun x15346 =>
 (whileM (law16_ContinuitySame_l129 x14693 x15346) (sv14701.1, sv14701.2.1, sv14701.2.2.1, sv14701.2.2.2.1, 0)).bind fun e15500 =>
 some (Sum.inl (e15500.1, e15500.2.1, e15500.2.2.1, e15500.2.2.2, (w64 (sv14701.2.2.2.2 + 1))))
 else
 some (Sum.inr (sv14701.2.2.1, sv14701.2.2.2.1)))
noncomputable def law16_ContinuitySame_l115 (rv41 : ((List Record) × Dice)) (rv69 : ((List Record) × Int)) (sv4785 : Int) (x11063 : Overlap) (rem11076 : Int) (sv12627 : Int) : Option (Int ⊕ (Int ⊕ Bool)) :=
 (if (decide (sv12627 < (([x11063.From, (w64 (x11063.To - 1)), (w64 (x11063.From + rem11076))] : List Int).length : Int))) = true then
 (ix ([x11063.From, (w64 (x11063.To - 1)), (w64 (x11063.From + rem11076))] : List Int) sv12627).bind fun x14693 =>
 (whileM (law16_ContinuitySame_l126 rv69 x14693) (0, 0, 0, true, 0)).bind fun e15182 =>
 ((if ((decide (e15182.1 < 2)) || (!(e15182.2 == x11063.Same))) = true then
 some true
 else
 (continuity_Depth rv41.1 x14693).bind fun rv15602 =>
 some (rv15602 != e15182.1))).bind fun c15599 =>
 (if c15599 = true then
 some (Sum.inr (Sum.inr false))
 else
 some (Sum.inl (w64 (sv12627 + 1))))
 else
 Option.map Sum.inr (some (Sum.inl (w64 (sv4785 + 1)))))
noncomputable def law16_ContinuitySame_l67 (n5 : Int) (rv41 : ((List Record) × Dice)) (rv55 : ((List Overlap) × Int)) (rv69 : ((List Record) × Int)) (sv4785 : Int) : Option (Int ⊕ Bool) :=
 (if (decide (sv4785 < (rv55.1.length : Int))) = true then
 (ix rv55.1 sv4785).bind fun x11063 =>
 (remM (w64 ((w64 n5) * 100)) (w64 (x11063.To - x11063.From))).bind fun rem11076 =>
 whileM (law16_ContinuitySame_l115 rv41 rv69 sv4785 x11063 rem11076) (0)
 else
 Option.map Sum.inr ((law16_sane).bind fun rv15617 =>
 some rv15617))
noncomputable def law16_ContinuitySame (t1 : (List Int)) (n5 : Int) : Option Bool :=
 (made_Light t1).bind fun rv7 =>
 (if (!rv7) = true then
 (law16_sane).bind fun rv23 =>
 some rv23
 else
 (made_Roll t1).bind fun rv30 =>
 (made_Dice_Records rv30 6).bind fun rv41 =>
 (continuity_Overlaps rv41.1 0 9007199254740992).bind fun rv55 =>
 (if (rv55.2 != 0) = true then
 some false
 else
 (ref15_Order rv41.1).bind fun rv69 =>
 whileM (law16_ContinuitySame_l67 n5 rv41 rv55 rv69) (0)))
noncomputable def record_sub (r1 : Record) (from5 : Int) (to6 : Int) : Option Record :=
 (subM r1.Samples from5 to6).bind fun l14 =>
 (slices_Clone_Lint_int l14).bind fun rv16 =>
 some (⟨r1.Source, r1.Start, (w64 (r1.First + from5)), r1.Rate, r1.Error, r1.Run, r1.Seq, rv16⟩ : Record)
noncomputable def record_Sub (r1 : Record) (from5 : Int) (to6 : Int) : Option (Record × Int) :=
 (record_Valid r1).bind fun rv10 =>
 (if (!rv10) = true then
 some ((⟨(⟨ByteArray.empty, ByteArray.empty, ByteArray.empty, ByteArray.empty⟩ : SourceID), 0, 0, (⟨0, 0⟩ : Rate), 0, 0, 0, ([] : List Int)⟩ : Record), 1)
 else
 (if (((decide (from5 < 0)) || (decide (to6 ≤ from5))) || (decide ((r1.Samples.length : Int) < to6))) = true then
 some ((⟨(⟨ByteArray.empty, ByteArray.empty, ByteArray.empty, ByteArray.empty⟩ : SourceID), 0, 0, (⟨0, 0⟩ : Rate), 0, 0, 0, ([] : List Int)⟩ : Record), 2)
 else
 (record_sub r1 from5 to6).bind fun rv23 =>
 some (rv23, 0)))
noncomputable def compose_runs_l6 (keep5 : (List Bool)) (sv562 : Int) : Option (Int ⊕ Int) :=
 ((if (decide (sv562 < (keep5.length : Int))) = true then
 (ix keep5 sv562).bind fun x684 =>
 some x684
 else
 some false)).bind fun c680 =>
 (if c680 = true then
 (some (w64 (sv562 + 1))).bind fun to700 =>
 some (Sum.inl to700)
 else
 some (Sum.inr sv562))
noncomputable def compose_runs_j2 (out727 : (List Record)) (fromv728 : Int) : Option (((List Record) × Int) ⊕ (List Record)) :=
 (some (w64 (fromv728 + 1))).bind fun fromv730 =>
 some (Sum.inl (out727, fromv730))
noncomputable def compose_runs_l3 (r1 : Record) (keep5 : (List Bool)) (sv10 : ((List Record) × Int)) : Option (((List Record) × Int) ⊕ (List Record)) :=
 (if (decide (sv10.2 < (keep5.length : Int))) = true then
 (whileM (compose_runs_l6 keep5) (sv10.2)).bind fun e664 =>
 (if (decide (sv10.2 < e664)) = true then
 (record_Sub r1 sv10.2 e664).bind fun rv733 =>
 (appM 144 sv10.1 ([rv733.1] : List Record)).bind fun l748 =>
 compose_runs_j2 l748 e664
 else
 compose_runs_j2 sv10.1 sv10.2)
 else
 some (Sum.inr sv10.1))
noncomputable def compose_runs (r1 : Record) (keep5 : (List Bool)) : Option (List Record) :=
 (whileM (compose_runs_l3 r1 keep5) (([] : List Record), 0)).bind fun e424 =>
 some e424
end Go.Proofs.YtdcafiefjakfeaaGreat.Sh

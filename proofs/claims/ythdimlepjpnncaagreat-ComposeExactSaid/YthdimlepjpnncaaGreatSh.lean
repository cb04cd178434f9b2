/- Each Go function as a plain program over lists and numbers (none: a panic, or no end). Printed by a program of ours out of the translation. -/
import Derived.Test.YthdimlepjpnncaaGreatShData
import Derived.Test.YthdimlepjpnncaaGreatLb1
namespace Go.Proofs.YthdimlepjpnncaaGreat.Sh
open Go
set_option linter.unusedVariables false
noncomputable def made_Light (l1 : (List Int)) : Option Bool :=
 some (decide ((l1.length : Int) ≤ 500))
noncomputable def law15_two : Option (List Record) :=
 some ([(⟨(⟨(⟨#[65]⟩ : ByteArray), (⟨#[66]⟩ : ByteArray), ByteArray.empty, (⟨#[72, 72, 90]⟩ : ByteArray)⟩ : SourceID), 0, 0, (⟨4, 1⟩ : Rate), 0, 0, 0, ([1, 2, 3, 4] : List Int)⟩ : Record), (⟨(⟨(⟨#[65]⟩ : ByteArray), (⟨#[66]⟩ : ByteArray), ByteArray.empty, (⟨#[72, 72, 90]⟩ : ByteArray)⟩ : SourceID), 500000, 0, (⟨4, 1⟩ : Rate), 0, 0, 1, ([5, 6, 7, 8] : List Int)⟩ : Record)] : List Record)
noncomputable def slices_IndexFunc_Lapi_Record_api_Record_l2 (s1 : (List Record)) (f5 : Record → Option Bool) (sv90 : Int) : Option (Int ⊕ Int) :=
 (if (decide (sv90 < (s1.length : Int))) = true then
 (ix s1 sv90).bind fun x200 =>
 (f5 x200).bind fun rv216 =>
 (if rv216 = true then
 some (Sum.inr sv90)
 else
 some (Sum.inl (w64 (sv90 + 1))))
 else
 Option.map Sum.inr (some (-1)))
noncomputable def slices_IndexFunc_Lapi_Record_api_Record (s1 : (List Record)) (f5 : Record → Option Bool) : Option Int :=
 whileM (slices_IndexFunc_Lapi_Record_api_Record_l2 s1 f5) (0)
noncomputable def slices_ContainsFunc_Lapi_Record_api_Record (s1 : (List Record)) (f5 : Record → Option Bool) : Option Bool :=
 (slices_IndexFunc_Lapi_Record_api_Record s1 f5).bind fun rv11 =>
 some (decide (0 ≤ rv11))
noncomputable def source_plain (c1 : Int) : Option Bool :=
 some (((decide (65 ≤ c1)) && (decide (c1 ≤ 90))) || ((decide (48 ≤ c1)) && (decide (c1 ≤ 57))))
noncomputable def source_code_l2 (s1 : ByteArray) (low2 : Int) (high3 : Int) (sv42 : Int) : Option (Int ⊕ Bool) :=
 (if (decide (sv42 < (s1.size : Int))) = true then
 (byteAt s1 sv42).bind fun c95 =>
 (source_plain c95).bind fun rv97 =>
 (if (!rv97) = true then
 some (Sum.inr false)
 else
 some (Sum.inl (w64 (sv42 + 1))))
 else
 Option.map Sum.inr (some ((decide (low2 ≤ (s1.size : Int))) && (decide ((s1.size : Int) ≤ high3)))))
noncomputable def source_code (s1 : ByteArray) (low2 : Int) (high3 : Int) : Option Bool :=
 whileM (source_code_l2 s1 low2 high3) (0)
noncomputable def source_Valid (s1 : SourceID) : Option Bool :=
 (source_code s1.Network 1 2).bind fun rv4 =>
 ((if rv4 = true then
 (source_code s1.Station 1 5).bind fun rv21 =>
 some rv21
 else
 some false)).bind fun c18 =>
 ((if c18 = true then
 (source_code s1.Location 0 2).bind fun rv38 =>
 some rv38
 else
 some false)).bind fun c35 =>
 ((if (c35 && ((s1.Location.size : Int) != 1)) = true then
 (source_code s1.Channel 3 3).bind fun rv56 =>
 some rv56
 else
 some false)).bind fun c53 =>
 some c53
noncomputable def record_in (n1 : Int) (low2 : Int) (high3 : Int) : Option Bool :=
 some ((decide (low2 ≤ n1)) && (decide (n1 ≤ high3)))
noncomputable def rate_in (n1 : Int) (low2 : Int) (high3 : Int) : Option Bool :=
 some ((decide (low2 ≤ n1)) && (decide (n1 ≤ high3)))
noncomputable def rate_gcd_l1 (sv3 : (Int × Int)) : Option ((Int × Int) ⊕ Int) :=
 (if (sv3.2 != 0) = true then
 (remM sv3.1 sv3.2).bind fun rem29 =>
 some (Sum.inl (sv3.2, rem29))
 else
 some (Sum.inr sv3.1))
noncomputable def rate_gcd (a1 : Int) (b2 : Int) : Option Int :=
 (whileM (rate_gcd_l1) (a1, b2)).bind fun e21 =>
 some e21
noncomputable def rate_Valid (r1 : Rate) : Option Bool :=
 (rate_in r1.Num 1 4096).bind fun rv4 =>
 ((if rv4 = true then
 (rate_in r1.Den 1 4096).bind fun rv21 =>
 some rv21
 else
 some false)).bind fun c18 =>
 ((if c18 = true then
 (rate_gcd r1.Num r1.Den).bind fun rv38 =>
 some (rv38 == 1)
 else
 some false)).bind fun c35 =>
 some c35
noncomputable def rate_micros (r1 : Rate) : Option Int :=
 (some (w64 (r1.Den * 1000000))).bind fun x4 =>
 some x4
noncomputable def rate_after (r1 : Rate) (k2 : Int) : Option Int :=
 (rate_micros r1).bind fun rv5 =>
 (quoM .i64 (w64 (k2 * rv5)) r1.Num).bind fun quo7 =>
 some quo7
noncomputable def rate_Time (start1 : Int) (r2 : Rate) (k3 : Int) : Option (Int × Int) :=
 (rate_Valid r2).bind fun rv6 =>
 (if (!rv6) = true then
 some (0, 1)
 else
 (rate_in start1 0 9007199254740992).bind fun rv15 =>
 ((if (!rv15) = true then
 some true
 else
 (rate_in k3 0 16777216).bind fun rv32 =>
 some (!rv32))).bind fun c29 =>
 (if c29 = true then
 some (0, 2)
 else
 (rate_after r2 k3).bind fun rv41 =>
 (some (w64 (start1 + rv41))).bind fun x48 =>
 some (x48, 0)))
noncomputable def slices_IndexFunc_Lint_int_l2 (s1 : (List Int)) (f5 : Int → Option Bool) (sv78 : Int) : Option (Int ⊕ Int) :=
 (if (decide (sv78 < (s1.length : Int))) = true then
 (ix s1 sv78).bind fun x172 =>
 (f5 x172).bind fun rv184 =>
 (if rv184 = true then
 some (Sum.inr sv78)
 else
 some (Sum.inl (w64 (sv78 + 1))))
 else
 Option.map Sum.inr (some (-1)))
noncomputable def slices_IndexFunc_Lint_int (s1 : (List Int)) (f5 : Int → Option Bool) : Option Int :=
 whileM (slices_IndexFunc_Lint_int_l2 s1 f5) (0)
noncomputable def slices_ContainsFunc_Lint_int (s1 : (List Int)) (f5 : Int → Option Bool) : Option Bool :=
 (slices_IndexFunc_Lint_int s1 f5).bind fun rv11 =>
 some (decide (0 ≤ rv11))
noncomputable def record_Valid_fn1 (x1 : Int) : Option Bool :=
 (record_in x1 (-1073741823) 1073741823).bind fun rv3 =>
 some (!rv3)
noncomputable def record_Valid (r1 : Record) : Option Bool :=
 (some (r1.Samples.length : Int)).bind fun n7 =>
 (source_Valid r1.Source).bind fun rv9 =>
 ((if (!rv9) = true then
 some true
 else
 (record_in n7 1 65536).bind fun rv26 =>
 some (!rv26))).bind fun c23 =>
 ((if c23 = true then
 some true
 else
 (record_in r1.First 0 (w64 (16777216 - n7))).bind fun rv43 =>
 some (!rv43))).bind fun c40 =>
 ((if c40 = true then
 some true
 else
 (record_in r1.Error 0 1099511627776).bind fun rv60 =>
 some (!rv60))).bind fun c57 =>
 ((if c57 = true then
 some true
 else
 (record_in r1.Run 0 65535).bind fun rv77 =>
 some (!rv77))).bind fun c74 =>
 ((if c74 = true then
 some true
 else
 (record_in r1.Seq 0 1073741824).bind fun rv94 =>
 some (!rv94))).bind fun c91 =>
 (if c91 = true then
 some false
 else
 (rate_Time r1.Start r1.Rate (w64 (r1.First + n7))).bind fun rv103 =>
 ((if ((rv103.2 == 0) && (decide (rv103.1 ≤ 9007199254740992))) = true then
 (slices_ContainsFunc_Lint_int r1.Samples record_Valid_fn1).bind fun rv121 =>
 some (!rv121)
 else
 some false)).bind fun c118 =>
 some c118)
noncomputable def compose_alike_fn1 (r1 : Record) (x5 : (List Record)) : Option Bool :=
 (record_Valid r1).bind fun rv13 =>
 (if (!rv13) = true then
 some true
 else
 (ix x5 0).bind fun x16 =>
 some (!((r1.Source.Network == x16.Source.Network) && ((r1.Source.Station == x16.Source.Station) && ((r1.Source.Location == x16.Source.Location) && ((r1.Source.Channel == x16.Source.Channel) && true)))))).bind fun c31 =>
 some c31
noncomputable def compose_alike (l1 : (List Record)) : Option Bool :=
 (slices_ContainsFunc_Lapi_Record_api_Record l1 (fun y0 => compose_alike_fn1 y0 l1)).bind fun rv7 =>
 some (!rv7)
noncomputable def compose_Valid (l1 : (List Record)) : Option Bool :=
 ((if (decide ((l1.length : Int) ≤ 256)) = true then
 (compose_alike l1).bind fun rv16 =>
 some rv16
 else
 some false)).bind fun c13 =>
 some c13
noncomputable def slices_Clone_Lapi_Record_api_Record (s1 : (List Record)) : Option (List Record) :=
 (appM 144 ([] : List Record) s1).bind fun l11 =>
 some l11
noncomputable def slices_Clone_Lint_int (s1 : (List Int)) : Option (List Int) :=
 (appM 8 ([] : List Int) s1).bind fun l11 =>
 some l11
noncomputable def slices_SortFunc_Lapi_Record_api_Record (x1 : (List Record)) (cmp6 : Record → Record → Option Int) : Option (List Record) :=
 sortM x1 cmp6
noncomputable def cmp_isNaN_string (x1 : ByteArray) : Option Bool :=
 some (!(x1.toList == x1.toList))
noncomputable def cmp_Compare_string (x1 : ByteArray) (y2 : ByteArray) : Option Int :=
 (cmp_isNaN_string x1).bind fun rv4 =>
 (cmp_isNaN_string y2).bind fun rv11 =>
 (if rv4 = true then
 (if rv11 = true then
 some 0
 else
 some (-1))
 else
 (if rv11 = true then
 some 1
 else
 (if (Op.bytesLess x1.toList y2.toList) = true then
 some (-1)
 else
 (if (!((Op.bytesLess x1.toList y2.toList) || (x1.toList == y2.toList))) = true then
 some 1
 else
 some 0))))
noncomputable def cmp_Or_int_l2 (vals1 : (List Int)) (sv55 : Int) : Option (Int ⊕ Int) :=
 (if (decide (sv55 < (vals1.length : Int))) = true then
 (ix vals1 sv55).bind fun x125 =>
 (if (x125 != 0) = true then
 some (Sum.inr x125)
 else
 some (Sum.inl (w64 (sv55 + 1))))
 else
 Option.map Sum.inr (some 0))
noncomputable def cmp_Or_int (vals1 : (List Int)) : Option Int :=
 whileM (cmp_Or_int_l2 vals1) (0)
noncomputable def source_Compare (a1 : SourceID) (b2 : SourceID) : Option Int :=
 (cmp_Compare_string a1.Network b2.Network).bind fun rv6 =>
 (cmp_Compare_string a1.Station b2.Station).bind fun rv8 =>
 (cmp_Compare_string a1.Location b2.Location).bind fun rv10 =>
 (cmp_Compare_string a1.Channel b2.Channel).bind fun rv12 =>
 (cmp_Or_int ([rv6, rv8, rv10, rv12] : List Int)).bind fun rv16 =>
 some rv16
noncomputable def record_time (r1 : Record) (i5 : Int) : Option Int :=
 (rate_Time r1.Start r1.Rate (w64 (r1.First + i5))).bind fun rv8 =>
 some rv8.1
noncomputable def record_begin (r1 : Record) : Option Int :=
 (record_Valid r1).bind fun rv7 =>
 (if (!rv7) = true then
 some 0
 else
 (record_time r1 0).bind fun rv16 =>
 some rv16)
noncomputable def cmp_isNaN_int (x1 : Int) : Option Bool :=
 some (x1 != x1)
noncomputable def cmp_Compare_int (x1 : Int) (y2 : Int) : Option Int :=
 (cmp_isNaN_int x1).bind fun rv4 =>
 (cmp_isNaN_int y2).bind fun rv11 =>
 (if rv4 = true then
 (if rv11 = true then
 some 0
 else
 some (-1))
 else
 (if rv11 = true then
 some 1
 else
 (if (decide (x1 < y2)) = true then
 some (-1)
 else
 (if (decide (y2 < x1)) = true then
 some 1
 else
 some 0))))
noncomputable def slices_Compare_Lint_int_l2 (s1_1 : (List Int)) (s2_5 : (List Int)) (sv122 : Int) : Option (Int ⊕ Int) :=
 (if (decide (sv122 < (s1_1.length : Int))) = true then
 (ix s1_1 sv122).bind fun x276 =>
 (if (decide ((s2_5.length : Int) ≤ sv122)) = true then
 some (Sum.inr 1)
 else
 (ix s2_5 sv122).bind fun x292 =>
 (cmp_Compare_int x276 x292).bind fun rv304 =>
 (if (rv304 != 0) = true then
 some (Sum.inr rv304)
 else
 some (Sum.inl (w64 (sv122 + 1)))))
 else
 Option.map Sum.inr ((if (decide ((s1_1.length : Int) < (s2_5.length : Int))) = true then
 some (-1)
 else
 some 0)))
noncomputable def slices_Compare_Lint_int (s1_1 : (List Int)) (s2_5 : (List Int)) : Option Int :=
 whileM (slices_Compare_Lint_int_l2 s1_1 s2_5) (0)
noncomputable def record_Compare (a1 : Record) (b5 : Record) : Option Int :=
 (source_Compare a1.Source b5.Source).bind fun rv12 =>
 (record_begin a1).bind fun rv14 =>
 (record_begin b5).bind fun rv16 =>
 (cmp_Compare_int rv14 rv16).bind fun rv18 =>
 (cmp_Compare_int a1.Start b5.Start).bind fun rv20 =>
 (cmp_Compare_int a1.First b5.First).bind fun rv22 =>
 (cmp_Compare_int a1.Rate.Num b5.Rate.Num).bind fun rv24 =>
 (cmp_Compare_int a1.Rate.Den b5.Rate.Den).bind fun rv26 =>
 (cmp_Compare_int a1.Error b5.Error).bind fun rv28 =>
 (cmp_Compare_int a1.Run b5.Run).bind fun rv30 =>
 (cmp_Compare_int a1.Seq b5.Seq).bind fun rv32 =>
 (cmp_Compare_int (a1.Samples.length : Int) (b5.Samples.length : Int)).bind fun rv34 =>
 (slices_Compare_Lint_int a1.Samples b5.Samples).bind fun rv36 =>
 (cmp_Or_int ([rv12, rv18, rv20, rv22, rv24, rv26, rv28, rv30, rv32, rv34, rv36] : List Int)).bind fun rv40 =>
 some rv40
noncomputable def slices_CompactFunc_Lapi_Record_api_Record_j1 (sv2183 : ((List Record) × Int × Int)) (sv2527 : (List Record)) (k2528 : Int) : Option (((List Record) × Int × Int) ⊕ ((List Record) × Int)) :=
 (some (w64 (sv2183.2.2 + 1))).bind fun k2_2530 =>
 some (Sum.inl (sv2527, k2528, k2_2530))
noncomputable def slices_CompactFunc_Lapi_Record_api_Record_l11 (eq6 : Record → Record → Option Bool) (sv825 : Int) (l2182 : (List Record)) (sv2183 : ((List Record) × Int × Int)) : Option (((List Record) × Int × Int) ⊕ ((List Record) × Int)) :=
 (if (decide (sv2183.2.2 < (l2182.length : Int))) = true then
 (ixV sv2183.1 sv825 l2182.length sv2183.2.2).bind fun x2468 =>
 (ixV sv2183.1 sv825 l2182.length (w64 (sv2183.2.2 - 1))).bind fun x2480 =>
 (eq6 x2468 x2480).bind fun rv2486 =>
 (if (!rv2486) = true then
 (ixV sv2183.1 sv825 l2182.length sv2183.2.2).bind fun x2539 =>
 (ix sv2183.1 sv2183.2.1).bind fun x2546 =>
 (setM sv2183.1 sv2183.2.1 x2539).bind fun l2558 =>
 (some (w64 (sv2183.2.1 + 1))).bind fun k2563 =>
 slices_CompactFunc_Lapi_Record_api_Record_j1 sv2183 l2558 k2563
 else
 slices_CompactFunc_Lapi_Record_api_Record_j1 sv2183 sv2183.1 sv2183.2.1)
 else
 some (Sum.inr (sv2183.1, sv2183.2.1)))
noncomputable def slices_CompactFunc_Lapi_Record_api_Record_l7 (s1 : (List Record)) (eq6 : Record → Record → Option Bool) (sv825 : Int) : Option (Int ⊕ (List Record)) :=
 (if (decide (sv825 < (s1.length : Int))) = true then
 (ix s1 sv825).bind fun x1909 =>
 (ix s1 (w64 (sv825 - 1))).bind fun x1926 =>
 (eq6 x1909 x1926).bind fun rv1938 =>
 (if rv1938 = true then
 (subM s1 sv825 (s1.length : Int)).bind fun l2182 =>
 (whileM (slices_CompactFunc_Lapi_Record_api_Record_l11 eq6 sv825 l2182) (s1, sv825, 1)).bind fun e2392 =>
 (subM e2392.1 e2392.2 (e2392.1.length : Int)).bind fun l2569 =>
 (some (copyM e2392.1 e2392.2 (e2392.1.length : Int) (List.replicate l2569.length ((⟨(⟨ByteArray.empty, ByteArray.empty, ByteArray.empty, ByteArray.empty⟩ : SourceID), 0, 0, (⟨0, 0⟩ : Rate), 0, 0, 0, ([] : List Int)⟩ : Record) : Record)))).bind fun l2570 =>
 (subM l2570 0 e2392.2).bind fun l2579 =>
 some (Sum.inr l2579)
 else
 (some (w64 (sv825 + 1))).bind fun k2583 =>
 some (Sum.inl k2583))
 else
 Option.map Sum.inr (some s1))
noncomputable def slices_CompactFunc_Lapi_Record_api_Record (s1 : (List Record)) (eq6 : Record → Record → Option Bool) : Option (List Record) :=
 (if (decide ((s1.length : Int) < 2)) = true then
 some s1
 else
 whileM (slices_CompactFunc_Lapi_Record_api_Record_l7 s1 eq6) (1))
noncomputable def slices_Equal_Lint_int_l2 (s1_1 : (List Int)) (s2_5 : (List Int)) (sv103 : Int) : Option (Int ⊕ Bool) :=
 (if (decide (sv103 < (s1_1.length : Int))) = true then
 (ix s1_1 sv103).bind fun x229 =>
 (ix s2_5 sv103).bind fun x242 =>
 (if (x229 != x242) = true then
 some (Sum.inr false)
 else
 some (Sum.inl (w64 (sv103 + 1))))
 else
 Option.map Sum.inr (some true))
noncomputable def slices_Equal_Lint_int (s1_1 : (List Int)) (s2_5 : (List Int)) : Option Bool :=
 (if ((s1_1.length : Int) != (s2_5.length : Int)) = true then
 some false
 else
 whileM (slices_Equal_Lint_int_l2 s1_1 s2_5) (0))
noncomputable def record_Same (a1 : Record) (b5 : Record) : Option Bool :=
 ((if ((((((((a1.Source.Network == b5.Source.Network) && ((a1.Source.Station == b5.Source.Station) && ((a1.Source.Location == b5.Source.Location) && ((a1.Source.Channel == b5.Source.Channel) && true)))) && (a1.Start == b5.Start)) && (a1.First == b5.First)) && ((a1.Rate.Num == b5.Rate.Num) && ((a1.Rate.Den == b5.Rate.Den) && true))) && (a1.Error == b5.Error)) && (a1.Run == b5.Run)) && (a1.Seq == b5.Seq)) = true then
 (slices_Equal_Lint_int a1.Samples b5.Samples).bind fun rv28 =>
 some rv28
 else
 some false)).bind fun c25 =>
 some c25
noncomputable def compose_order_l1 (rv6 : (List Record)) (sv16 : ((List Record) × Int)) : Option (((List Record) × Int) ⊕ (List Record)) :=
 (if (decide (sv16.2 < (rv6.length : Int))) = true then
 (ix sv16.1 sv16.2).bind fun x224 =>
 (slices_Clone_Lint_int x224.Samples).bind fun rv240 =>
 (ix sv16.1 sv16.2).bind fun x252 =>
 (setM sv16.1 sv16.2 (⟨x252.Source, x252.Start, x252.First, x252.Rate, x252.Error, x252.Run, x252.Seq, rv240⟩ : Record)).bind fun l264 =>
 some (Sum.inl (l264, (w64 (sv16.2 + 1))))
 else
 some (Sum.inr sv16.1))
noncomputable def compose_order (l1 : (List Record)) : Option (List Record) :=
 (slices_Clone_Lapi_Record_api_Record l1).bind fun rv6 =>
 (whileM (compose_order_l1 rv6) (rv6, 0)).bind fun e169 =>
 (slices_SortFunc_Lapi_Record_api_Record e169 record_Compare).bind fun rv270 =>
 (slices_CompactFunc_Lapi_Record_api_Record rv270 record_Same).bind fun rv282 =>
 some rv282
noncomputable def record_Better (a1 : Record) (b5 : Record) : Option Bool :=
 (cmp_Compare_int a1.Error b5.Error).bind fun rv12 =>
 (cmp_Compare_int b5.Run a1.Run).bind fun rv14 =>
 (cmp_Compare_int b5.Seq a1.Seq).bind fun rv16 =>
 (record_Compare a1 b5).bind fun rv18 =>
 (cmp_Or_int ([rv12, rv14, rv16, rv18] : List Int)).bind fun rv22 =>
 some (decide (rv22 < 0))
noncomputable def compose_at (r1 : Record) (i5 : Int) : Option Int :=
 (rate_Time r1.Start r1.Rate (w64 (r1.First + i5))).bind fun rv8 =>
 some rv8.1
noncomputable def compose_extent (r1 : Record) : Option Span :=
 (compose_at r1 0).bind fun rv8 =>
 (compose_at r1 (r1.Samples.length : Int)).bind fun rv10 =>
 some (⟨rv8, rv10⟩ : Span)
noncomputable def slices_Clone_Lapi_Span_api_Span (s1 : (List Span)) : Option (List Span) :=
 (appM 16 ([] : List Span) s1).bind fun l11 =>
 some l11
noncomputable def slices_IndexFunc_Lapi_Span_api_Span_l2 (s1 : (List Span)) (f5 : Span → Option Bool) (sv78 : Int) : Option (Int ⊕ Int) :=
 (if (decide (sv78 < (s1.length : Int))) = true then
 (ix s1 sv78).bind fun x172 =>
 (f5 x172).bind fun rv184 =>
 (if rv184 = true then
 some (Sum.inr sv78)
 else
 some (Sum.inl (w64 (sv78 + 1))))
 else
 Option.map Sum.inr (some (-1)))
noncomputable def slices_IndexFunc_Lapi_Span_api_Span (s1 : (List Span)) (f5 : Span → Option Bool) : Option Int :=
 whileM (slices_IndexFunc_Lapi_Span_api_Span_l2 s1 f5) (0)
noncomputable def slices_DeleteFunc_Lapi_Span_api_Span_j1 (sv22 : ((List Span) × Int × Int)) (sv247 : (List Span)) (i248 : Int) : Option (((List Span) × Int × Int) ⊕ ((List Span) × Int)) :=
 (some (w64 (sv22.2.2 + 1))).bind fun j250 =>
 some (Sum.inl (sv247, i248, j250))
noncomputable def slices_DeleteFunc_Lapi_Span_api_Span_l1 (del6 : Span → Option Bool) (sv22 : ((List Span) × Int × Int)) : Option (((List Span) × Int × Int) ⊕ ((List Span) × Int)) :=
 (if (decide (sv22.2.2 < (sv22.1.length : Int))) = true then
 (ix sv22.1 sv22.2.2).bind fun x210 =>
 (del6 x210).bind fun rv223 =>
 (if (!rv223) = true then
 (ix sv22.1 sv22.2.1).bind fun x254 =>
 (setM sv22.1 sv22.2.1 x210).bind fun l262 =>
 (some (w64 (sv22.2.1 + 1))).bind fun i267 =>
 slices_DeleteFunc_Lapi_Span_api_Span_j1 sv22 l262 i267
 else
 slices_DeleteFunc_Lapi_Span_api_Span_j1 sv22 sv22.1 sv22.2.1)
 else
 some (Sum.inr (sv22.1, sv22.2.1)))
noncomputable def slices_DeleteFunc_Lapi_Span_api_Span (s1 : (List Span)) (del6 : Span → Option Bool) : Option (List Span) :=
 (slices_IndexFunc_Lapi_Span_api_Span s1 del6).bind fun rv12 =>
 (if (rv12 == (-1)) = true then
 some s1
 else
 (some (w64 (rv12 + 1))).bind fun j21 =>
 (whileM (slices_DeleteFunc_Lapi_Span_api_Span_l1 del6) (s1, rv12, j21)).bind fun e162 =>
 (subM e162.1 e162.2 (e162.1.length : Int)).bind fun l273 =>
 (some (copyM e162.1 e162.2 (e162.1.length : Int) (List.replicate l273.length ((⟨0, 0⟩ : Span) : Span)))).bind fun l274 =>
 (subM l274 0 e162.2).bind fun l283 =>
 some l283)
noncomputable def span_some (s1 : Span) : Option Bool :=
 some (decide (s1.From < s1.To))
noncomputable def span_Normal_fn1 (s1 : Span) : Option Bool :=
 (span_some s1).bind fun rv4 =>
 some (!rv4)
noncomputable def slices_SortFunc_Lapi_Span_api_Span (x1 : (List Span)) (cmp6 : Span → Span → Option Int) : Option (List Span) :=
 sortP x1 cmp6
noncomputable def span_Normal_fn2 (a1 : Span) (b2 : Span) : Option Int :=
 (cmp_Compare_int a1.From b2.From).bind fun rv6 =>
 some rv6
noncomputable def span_Normal_j1 (sv39 : ((List Span) × Int)) (out425 : (List Span)) : Option (((List Span) × Int) ⊕ (List Span)) :=
 some (Sum.inl (out425, (w64 (sv39.2 + 1))))
noncomputable def span_Normal_l1 (rv28 : (List Span)) (sv39 : ((List Span) × Int)) : Option (((List Span) × Int) ⊕ (List Span)) :=
 (if (decide (sv39.2 < (rv28.length : Int))) = true then
 (ix rv28 sv39.2).bind fun x341 =>
 (some (sv39.1.length : Int)).bind fun n354 =>
 (if (decide (0 < n354)) = true then
 (ix sv39.1 (w64 (n354 - 1))).bind fun x357 =>
 some (decide (x341.From ≤ x357.To))
 else
 some false).bind fun c368 =>
 (if c368 = true then
 (ix sv39.1 (w64 (n354 - 1))).bind fun x429 =>
 (ix sv39.1 (w64 (n354 - 1))).bind fun x442 =>
 (setM sv39.1 (w64 (n354 - 1)) (⟨x442.From, (max x429.To x341.To)⟩ : Span)).bind fun l450 =>
 span_Normal_j1 sv39 l450
 else
 (appM 16 sv39.1 ([x341] : List Span)).bind fun l457 =>
 span_Normal_j1 sv39 l457)
 else
 some (Sum.inr sv39.1))
noncomputable def span_Normal (l1 : (List Span)) : Option (List Span) :=
 (slices_Clone_Lapi_Span_api_Span l1).bind fun rv6 =>
 (slices_DeleteFunc_Lapi_Span_api_Span rv6 span_Normal_fn1).bind fun rv17 =>
 (slices_SortFunc_Lapi_Span_api_Span rv17 span_Normal_fn2).bind fun rv28 =>
 (whileM (span_Normal_l1 rv28) (([] : List Span), 0)).bind fun e261 =>
 some e261
noncomputable def compose_times_l1 (r1 : Record) (sv6 : ((List Int) × Int)) : Option (((List Int) × Int) ⊕ (List Int)) :=
 (if (decide (sv6.2 < (w64 ((r1.Samples.length : Int) + 1)))) = true then
 (compose_at r1 sv6.2).bind fun rv85 =>
 (appM 8 sv6.1 ([rv85] : List Int)).bind fun l94 =>
 some (Sum.inl (l94, (w64 (sv6.2 + 1))))
 else
 some (Sum.inr sv6.1))
noncomputable def compose_times (r1 : Record) : Option (List Int) :=
 (whileM (compose_times_l1 r1) (([] : List Int), 0)).bind fun e63 =>
 some e63
noncomputable def compose_kept_l6 (better5 : (List Span)) (rv11 : (List Int)) (sv25 : ((List Bool) × Int × Int)) (sv631 : Int) : Option (Int ⊕ Int) :=
 (if (decide (sv631 < (better5.length : Int))) = true then
 (ix better5 sv631).bind fun x734 =>
 (ix rv11 sv25.2.2).bind fun x747 =>
 some (decide (x734.To ≤ x747))
 else
 some false).bind fun c758 =>
 (if c758 = true then
 (some (w64 (sv631 + 1))).bind fun k794 =>
 some (Sum.inl k794)
 else
 some (Sum.inr sv631))
noncomputable def compose_kept_l3 (better5 : (List Span)) (rv11 : (List Int)) (l22 : (List Bool)) (sv25 : ((List Bool) × Int × Int)) : Option (((List Bool) × Int × Int) ⊕ (List Bool)) :=
 (if (decide (sv25.2.2 < (l22.length : Int))) = true then
 (whileM (compose_kept_l6 better5 rv11 sv25) (sv25.2.1)).bind fun e730 =>
 (if (e730 == (better5.length : Int)) = true then
 some true
 else
 (ix better5 e730).bind fun x798 =>
 (ix rv11 (w64 (sv25.2.2 + 1))).bind fun x811 =>
 some (decide (x811 ≤ x798.From))).bind fun c822 =>
 (ix sv25.1 sv25.2.2).bind fun x825 =>
 (setM sv25.1 sv25.2.2 c822).bind fun l837 =>
 some (Sum.inl (l837, e730, (w64 (sv25.2.2 + 1))))
 else
 some (Sum.inr sv25.1))
noncomputable def compose_kept (r1 : Record) (better5 : (List Span)) : Option (List Bool) :=
 (compose_times r1).bind fun rv11 =>
 (makeM 1 (false : Bool) (r1.Samples.length : Int)).bind fun l22 =>
 (whileM (compose_kept_l3 better5 rv11 l22) (l22, 0, 0)).bind fun e478 =>
 some e478
noncomputable def record_sub (r1 : Record) (from5 : Int) (to6 : Int) : Option Record :=
 (subM r1.Samples from5 to6).bind fun l14 =>
 (slices_Clone_Lint_int l14).bind fun rv16 =>
 some (⟨r1.Source, r1.Start, (w64 (r1.First + from5)), r1.Rate, r1.Error, r1.Run, r1.Seq, rv16⟩ : Record)
noncomputable def record_Sub (r1 : Record) (from5 : Int) (to6 : Int) : Option (Record × Int) :=
 (record_Valid r1).bind fun rv10 =>
 (if (!rv10) = true then
 some ((⟨(⟨ByteArray.empty, ByteArray.empty, ByteArray.empty, ByteArray.empty⟩ : SourceID), 0, 0, (⟨0, 0⟩ : Rate), 0, 0, 0, ([] : List Int)⟩ : Record), 1)
 else
 (if (((decide (from5 < 0)) || (decide (to6 ≤ from5))) || (decide ((r1.Samples.length : Int) < to6))) = true then
 some ((⟨(⟨ByteArray.empty, ByteArray.empty, ByteArray.empty, ByteArray.empty⟩ : SourceID), 0, 0, (⟨0, 0⟩ : Rate), 0, 0, 0, ([] : List Int)⟩ : Record), 2)
 else
 (record_sub r1 from5 to6).bind fun rv23 =>
 some (rv23, 0)))
noncomputable def compose_runs_l6 (keep5 : (List Bool)) (sv562 : Int) : Option (Int ⊕ Int) :=
 ((if (decide (sv562 < (keep5.length : Int))) = true then
 (ix keep5 sv562).bind fun x684 =>
 some x684
 else
 some false)).bind fun c680 =>
 (if c680 = true then
 (some (w64 (sv562 + 1))).bind fun to700 =>
 some (Sum.inl to700)
 else
 some (Sum.inr sv562))
noncomputable def compose_runs_j2 (out727 : (List Record)) (fromv728 : Int) : Option (((List Record) × Int) ⊕ (List Record)) :=
 (some (w64 (fromv728 + 1))).bind fun fromv730 =>
 some (Sum.inl (out727, fromv730))
noncomputable def compose_runs_l3 (r1 : Record) (keep5 : (List Bool)) (sv10 : ((List Record) × Int)) : Option (((List Record) × Int) ⊕ (List Record)) :=
 (if (decide (sv10.2 < (keep5.length : Int))) = true then
 (whileM (compose_runs_l6 keep5) (sv10.2)).bind fun e664 =>
 (if (decide (sv10.2 < e664)) = true then
 (record_Sub r1 sv10.2 e664).bind fun rv733 =>
 (appM 144 sv10.1 ([rv733.1] : List Record)).bind fun l748 =>
 compose_runs_j2 l748 e664
 else
 compose_runs_j2 sv10.1 sv10.2)
 else
 some (Sum.inr sv10.1))
noncomputable def compose_runs (r1 : Record) (keep5 : (List Bool)) : Option (List Record) :=
 (whileM (compose_runs_l3 r1 keep5) (([] : List Record), 0)).bind fun e424 =>
 some e424
noncomputable def compose_compose_j1 (sv796 : ((List Span) × Int)) (better1022 : (List Span)) : Option (((List Span) × Int) ⊕ (List Span)) :=
 some (Sum.inl (better1022, (w64 (sv796.2 + 1))))
noncomputable def compose_compose_l6 (rv6 : (List Record)) (x780 : Record) (sv796 : ((List Span) × Int)) : Option (((List Span) × Int) ⊕ (List Span)) :=
 (if (decide (sv796.2 < (rv6.length : Int))) = true then
 (ix rv6 sv796.2).bind fun x984 =>
 (record_Better x984 x780).bind fun rv997 =>
 (if rv997 = true then
 (compose_extent x984).bind fun rv1025 =>
 (appM 16 sv796.1 ([rv1025] : List Span)).bind fun l1034 =>
 compose_compose_j1 sv796 l1034
 else
 compose_compose_j1 sv796 sv796.1)
 else
 some (Sum.inr sv796.1))
noncomputable def compose_compose_l3 (rv6 : (List Record)) (sv16 : ((List Record) × Int)) : Option (((List Record) × Int) ⊕ (List Record)) :=
 (if (decide (sv16.2 < (rv6.length : Int))) = true then
 (ix rv6 sv16.2).bind fun x780 =>
 (whileM (compose_compose_l6 rv6 x780) (([] : List Span), 0)).bind fun e934 =>
 (span_Normal e934).bind fun rv1040 =>
 (compose_kept x780 rv1040).bind fun rv1046 =>
 (compose_runs x780 rv1046).bind fun rv1052 =>
 (appM 144 sv16.1 rv1052).bind fun l1058 =>
 some (Sum.inl (l1058, (w64 (sv16.2 + 1))))
 else
 some (Sum.inr sv16.1))
noncomputable def compose_compose (l1 : (List Record)) : Option (List Record) :=
 (compose_order l1).bind fun rv6 =>
 (whileM (compose_compose_l3 rv6) (([] : List Record), 0)).bind fun e586 =>
 (slices_SortFunc_Lapi_Record_api_Record e586 record_Compare).bind fun rv1084 =>
 some rv1084
noncomputable def compose_Compose (l1 : (List Record)) : Option ((List Record) × Int) :=
 (compose_Valid l1).bind fun rv6 =>
 (if (!rv6) = true then
 some (([] : List Record), 1)
 else
 (compose_compose l1).bind fun rv15 =>
 some (rv15, 0))
noncomputable def compose_Value_l11 (t5 : Int) (sv454 : Int) (x1028 : Record) (sv1166 : Int) : Option (Int ⊕ (Int ⊕ (Int × Bool))) :=
 (if (decide (sv1166 < (x1028.Samples.length : Int))) = true then
 (ix x1028.Samples sv1166).bind fun x1332 =>
 (compose_at x1028 sv1166).bind fun rv1344 =>
 ((if (decide (rv1344 ≤ t5)) = true then
 (compose_at x1028 (w64 (sv1166 + 1))).bind fun rv1361 =>
 some (decide (t5 < rv1361))
 else
 some false)).bind fun c1358 =>
 (if c1358 = true then
 some (Sum.inr (Sum.inr (x1332, true)))
 else
 some (Sum.inl (w64 (sv1166 + 1))))
 else
 Option.map Sum.inr (some (Sum.inl (w64 (sv454 + 1)))))
noncomputable def compose_Value_l7 (t5 : Int) (rv16 : (List Record)) (sv454 : Int) : Option (Int ⊕ (Int × Bool)) :=
 (if (decide (sv454 < (rv16.length : Int))) = true then
 (ix rv16 sv454).bind fun x1028 =>
 whileM (compose_Value_l11 t5 sv454 x1028) (0)
 else
 Option.map Sum.inr (some (0, false)))
noncomputable def compose_Value (l1 : (List Record)) (t5 : Int) : Option (Int × Bool) :=
 (compose_Valid l1).bind fun rv7 =>
 (if (!rv7) = true then
 some (0, false)
 else
 (compose_compose l1).bind fun rv16 =>
 whileM (compose_Value_l7 t5 rv16) (0))
noncomputable def law15_sane : Option Bool :=
 (law15_two).bind fun rv2 =>
 (compose_Compose rv2).bind fun rv13 =>
 (law15_two).bind fun rv25 =>
 (compose_Value rv25 600000).bind fun rv36 =>
 ((if ((rv13.2 == 0) && ((rv13.1.length : Int) == 2)) = true then
 (ix rv13.1 0).bind fun x65 =>
 some ((x65.Samples.length : Int) == 2)
 else
 some false)).bind fun c61 =>
 ((if c61 = true then
 (ix rv13.1 1).bind fun x102 =>
 some ((x102.Samples.length : Int) == 4)
 else
 some false)).bind fun c98 =>
 some ((c98 && rv36.2) && (rv36.1 == 5))
noncomputable def made_Roll (l1 : (List Int)) : Option Dice :=
 some (⟨l1, 0⟩ : Dice)
noncomputable def made_Dice_Next_j1 (d1 : Dice) (x30 : Int) : Option (Int × Dice) :=
 some (x30, (⟨d1.L, (w64 (d1.At + 1))⟩ : Dice))
noncomputable def made_Dice_Next (d1 : Dice) (n6 : Int) : Option (Int × Dice) :=
 (if ((decide ((d1.L.length : Int) ≤ d1.At)) || (decide (n6 < 1))) = true then
 some (0, d1)
 else
 (ix d1.L d1.At).bind fun x12 =>
 (remM x12 n6).bind fun rem24 =>
 (if (decide (rem24 < 0)) = true then
 (some (w64 (rem24 + n6))).bind fun x33 =>
 made_Dice_Next_j1 d1 x33
 else
 made_Dice_Next_j1 d1 rem24))
noncomputable def made_Dice_Source (d1 : Dice) : Option (SourceID × Dice) :=
 (made_Dice_Next d1 3).bind fun rv10 =>
 (ix ([(⟨#[71, 82]⟩ : ByteArray), (⟨#[88]⟩ : ByteArray), (⟨#[55, 65]⟩ : ByteArray)] : List ByteArray) rv10.1).bind fun x16 =>
 (made_Dice_Next rv10.2 4).bind fun rv26 =>
 (ix ([(⟨#[70, 85, 82]⟩ : ByteArray), (⟨#[65]⟩ : ByteArray), (⟨#[65, 66, 67, 68, 69]⟩ : ByteArray), (⟨#[70, 85]⟩ : ByteArray)] : List ByteArray) rv26.1).bind fun x32 =>
 (made_Dice_Next rv26.2 3).bind fun rv42 =>
 (ix ([(⟨#[]⟩ : ByteArray), (⟨#[48, 48]⟩ : ByteArray), (⟨#[49, 48]⟩ : ByteArray)] : List ByteArray) rv42.1).bind fun x48 =>
 (made_Dice_Next rv42.2 3).bind fun rv58 =>
 (ix ([(⟨#[72, 72, 90]⟩ : ByteArray), (⟨#[72, 72, 78]⟩ : ByteArray), (⟨#[66, 72, 90]⟩ : ByteArray)] : List ByteArray) rv58.1).bind fun x64 =>
 some ((⟨x16, x32, x48, x64⟩ : SourceID), rv58.2)
noncomputable def made_Dice_Pick (d1 : Dice) (l6 : (List Int)) : Option (Int × Dice) :=
 (made_Dice_Next d1 (l6.length : Int)).bind fun rv11 =>
 (ix l6 rv11.1).bind fun x22 =>
 some (x22, rv11.2)
noncomputable def ref01_In (n1 : Int) (lo2 : Int) (hi3 : Int) : Option Bool :=
 some ((decide (lo2 ≤ n1)) && (decide (n1 ≤ hi3)))
noncomputable def ref02_gcd_l1 (sv3 : (Int × Int)) : Option ((Int × Int) ⊕ Int) :=
 (if (sv3.2 != 0) = true then
 (remM sv3.1 sv3.2).bind fun rem29 =>
 some (Sum.inl (sv3.2, rem29))
 else
 some (Sum.inr sv3.1))
noncomputable def ref02_gcd (a1 : Int) (b2 : Int) : Option Int :=
 (whileM (ref02_gcd_l1) (a1, b2)).bind fun e21 =>
 some e21
noncomputable def ref02_New (num1 : Int) (den2 : Int) : Option (Rate × Int) :=
 (ref01_In num1 1 4096).bind fun rv5 =>
 ((if (!rv5) = true then
 some true
 else
 (ref01_In den2 1 4096).bind fun rv22 =>
 some (!rv22))).bind fun c19 =>
 (if c19 = true then
 some ((⟨0, 0⟩ : Rate), 2)
 else
 (ref02_gcd num1 den2).bind fun rv31 =>
 (quoM .i64 num1 rv31).bind fun quo38 =>
 (quoM .i64 den2 rv31).bind fun quo40 =>
 some ((⟨quo38, quo40⟩ : Rate), 0))
noncomputable def made_Dice_Record_l1 (sv168 : ((List Int) × Int × (List Int) × Int)) : Option (((List Int) × Int × (List Int) × Int) ⊕ ((List Int) × Int × (List Int))) :=
 (if (decide (0 < sv168.2.2.2)) = true then
 (made_Dice_Next (⟨sv168.1, sv168.2.1⟩ : Dice) 4).bind fun rv255 =>
 (appM 8 sv168.2.2.1 ([rv255.1] : List Int)).bind fun l262 =>
 (some (w64 (sv168.2.2.2 - 1))).bind fun i293 =>
 some (Sum.inl (rv255.2.L, rv255.2.At, l262, i293))
 else
 some (Sum.inr (sv168.1, sv168.2.1, sv168.2.2.1)))
noncomputable def made_Dice_Record (d1 : Dice) (s6 : SourceID) (n7 : Int) : Option (Record × Dice) :=
 (made_Dice_Pick d1 ([1, 2, 2, 3] : List Int)).bind fun rv13 =>
 (made_Dice_Pick rv13.2 ([1, 1, 1, 3] : List Int)).bind fun rv26 =>
 (ref02_New rv13.1 rv26.1).bind fun rv37 =>
 (made_Dice_Next rv26.2 40).bind fun rv45 =>
 (made_Dice_Pick rv45.2 ([0, 0, 3] : List Int)).bind fun rv52 =>
 (made_Dice_Pick rv52.2 ([0, 0, 10, 500] : List Int)).bind fun rv59 =>
 (made_Dice_Next rv59.2 2).bind fun rv64 =>
 (made_Dice_Next rv64.2 6).bind fun rv69 =>
 (made_Dice_Next rv69.2 n7).bind fun rv157 =>
 (some (w64 (1 + rv157.1))).bind fun i167 =>
 (whileM (made_Dice_Record_l1) (rv157.2.L, rv157.2.At, ([] : List Int), i167)).bind fun e232 =>
 some ((⟨s6, (w64 (1000000000000 + (w64 (250000 * rv45.1)))), rv52.1, rv37.1, rv59.1, rv64.1, rv69.1, e232.2.2⟩ : Record), (⟨e232.1, e232.2.1⟩ : Dice))
noncomputable def made_Dice_Records_j1 (sv28 : ((List Int) × Int × (List Record) × Int)) (x576 : (List Int)) (x577 : Int) (x578 : ByteArray) (x579 : ByteArray) (x580 : ByteArray) (x581 : ByteArray) (x582 : Int) (x583 : Int) (x584 : Int) (x585 : Int) (x586 : Int) (x587 : Int) (x588 : Int) (x589 : (List Int)) : Option (((List Int) × Int × (List Record) × Int) ⊕ ((List Int) × Int × (List Record))) :=
 (appM 144 sv28.2.2.1 ([(⟨(⟨x578, x579, x580, x581⟩ : SourceID), x582, x583, (⟨x584, x585⟩ : Rate), x586, x587, x588, x589⟩ : Record)] : List Record)).bind fun l593 =>
 (some (w64 (sv28.2.2.2 - 1))).bind fun i598 =>
 some (Sum.inl (x576, x577, l593, i598))
noncomputable def made_Dice_Records_l1 (rv8 : (SourceID × Dice)) (sv28 : ((List Int) × Int × (List Record) × Int)) : Option (((List Int) × Int × (List Record) × Int) ⊕ ((List Int) × Int × (List Record))) :=
 (if (decide (0 < sv28.2.2.2)) = true then
 (made_Dice_Record (⟨sv28.1, sv28.2.1⟩ : Dice) rv8.1 6).bind fun rv491 =>
 ((if (decide (0 < (sv28.2.2.1.length : Int))) = true then
 (made_Dice_Next rv491.2 5).bind fun rv521 =>
 some (rv521.2.L, rv521.2.At, (rv521.1 == 0))
 else
 some (rv491.2.L, rv491.2.At, false))).bind fun c516 =>
 (if c516.2.2 = true then
 (made_Dice_Next (⟨c516.1, c516.2.1⟩ : Dice) (sv28.2.2.1.length : Int)).bind fun rv601 =>
 (ix sv28.2.2.1 rv601.1).bind fun x612 =>
 (made_Dice_Pick rv601.2 ([x612.Seq, 9] : List Int)).bind fun rv630 =>
 made_Dice_Records_j1 sv28 rv630.2.L rv630.2.At x612.Source.Network x612.Source.Station x612.Source.Location x612.Source.Channel x612.Start x612.First x612.Rate.Num x612.Rate.Den x612.Error x612.Run rv630.1 x612.Samples
 else
 made_Dice_Records_j1 sv28 c516.1 c516.2.1 rv491.1.Source.Network rv491.1.Source.Station rv491.1.Source.Location rv491.1.Source.Channel rv491.1.Start rv491.1.First rv491.1.Rate.Num rv491.1.Rate.Den rv491.1.Error rv491.1.Run rv491.1.Seq rv491.1.Samples)
 else
 some (Sum.inr (sv28.1, sv28.2.1, sv28.2.2.1)))
noncomputable def made_Dice_Records (d1 : Dice) (n6 : Int) : Option ((List Record) × Dice) :=
 (made_Dice_Source d1).bind fun rv8 =>
 (made_Dice_Next rv8.2 (w64 (n6 + 1))).bind fun rv19 =>
 (whileM (made_Dice_Records_l1 rv8) (rv19.2.L, rv19.2.At, ([] : List Record), rv19.1)).bind fun e374 =>
 some (e374.2.2, (⟨e374.1, e374.2.1⟩ : Dice))
noncomputable def made_Dice_OddRecord_j1 (r6 : Record) (x438 : (List Int)) (x439 : Int) (x440 : ByteArray) (x441 : Int) (x442 : Int) (x443 : Int) (x444 : Int) (x445 : Int) (x446 : Int) (x447 : Int) (x448 : (List Int)) : Option (Record × Dice) :=
 some ((⟨(⟨r6.Source.Network, x440, r6.Source.Location, r6.Source.Channel⟩ : SourceID), x441, x442, (⟨x443, x444⟩ : Rate), x445, x446, x447, x448⟩ : Record), (⟨x438, x439⟩ : Dice))
noncomputable def made_Dice_OddRecord_j2 (r6 : Record) (x633 : (List Int)) (x634 : Int) (x635 : Int) (x636 : Int) (x637 : Int) (x638 : Int) (x639 : Int) (x640 : Int) (x641 : Int) (x642 : (List Int)) : Option (Record × Dice) :=
 made_Dice_OddRecord_j1 r6 x633 x634 r6.Source.Station x635 x636 x637 x638 x639 x640 x641 x642
noncomputable def made_Dice_OddRecord_j3 (r6 : Record) (x811 : (List Int)) (x812 : Int) (x813 : Int) (x814 : Int) (x815 : Int) (x816 : Int) (x817 : Int) (x818 : Int) (x819 : (List Int)) : Option (Record × Dice) :=
 made_Dice_OddRecord_j2 r6 x811 x812 r6.Start x813 x814 x815 x816 x817 x818 x819
noncomputable def made_Dice_OddRecord_j4 (r6 : Record) (x960 : (List Int)) (x961 : Int) (x962 : Int) (x963 : Int) (x964 : Int) (x965 : Int) (x966 : Int) (x967 : (List Int)) : Option (Record × Dice) :=
 made_Dice_OddRecord_j3 r6 x960 x961 r6.First x962 x963 x964 x965 x966 x967
noncomputable def made_Dice_OddRecord_j5 (r6 : Record) (x1082 : (List Int)) (x1083 : Int) (x1084 : Int) (x1085 : Int) (x1086 : Int) (x1087 : (List Int)) : Option (Record × Dice) :=
 made_Dice_OddRecord_j4 r6 x1082 x1083 r6.Rate.Num r6.Rate.Den x1084 x1085 x1086 x1087
noncomputable def made_Dice_OddRecord_j6 (r6 : Record) (x1177 : (List Int)) (x1178 : Int) (x1179 : Int) (x1180 : Int) (x1181 : (List Int)) : Option (Record × Dice) :=
 made_Dice_OddRecord_j5 r6 x1177 x1178 r6.Error x1179 x1180 x1181
noncomputable def made_Dice_OddRecord_j7 (r6 : Record) (x1247 : (List Int)) (x1248 : Int) (x1249 : Int) (x1250 : (List Int)) : Option (Record × Dice) :=
 made_Dice_OddRecord_j6 r6 x1247 x1248 r6.Run x1249 x1250
noncomputable def made_Dice_OddRecord_j8 (r6 : Record) (x1293 : (List Int)) (x1294 : Int) (x1295 : (List Int)) : Option (Record × Dice) :=
 made_Dice_OddRecord_j7 r6 x1293 x1294 r6.Seq x1295
noncomputable def made_Dice_OddRecord_j9 (r6 : Record) (rv18 : (Int × Dice)) (x1353 : (List Int)) : Option (Record × Dice) :=
 made_Dice_OddRecord_j8 r6 rv18.2.L rv18.2.At x1353
noncomputable def made_Dice_OddRecord (d1 : Dice) (r6 : Record) : Option (Record × Dice) :=
 (appM 8 ([] : List Int) r6.Samples).bind fun l13 =>
 (made_Dice_Next d1 10).bind fun rv18 =>
 (if (rv18.1 == 0) = true then
 made_Dice_OddRecord_j1 r6 rv18.2.L rv18.2.At (⟨#[]⟩ : ByteArray) r6.Start r6.First r6.Rate.Num r6.Rate.Den r6.Error r6.Run r6.Seq l13
 else
 (if (rv18.1 == 1) = true then
 (made_Dice_Pick rv18.2 ([(-1), 0, 9007199254740992, 9007199254740993] : List Int)).bind fun rv647 =>
 made_Dice_OddRecord_j2 r6 rv647.2.L rv647.2.At rv647.1 r6.First r6.Rate.Num r6.Rate.Den r6.Error r6.Run r6.Seq l13
 else
 (if (rv18.1 == 2) = true then
 (made_Dice_Pick rv18.2 ([(-1), 16777213, 16777216] : List Int)).bind fun rv824 =>
 made_Dice_OddRecord_j3 r6 rv824.2.L rv824.2.At rv824.1 r6.Rate.Num r6.Rate.Den r6.Error r6.Run r6.Seq l13
 else
 (if (rv18.1 == 3) = true then
 (made_Dice_Pick rv18.2 ([0, 2, 4097] : List Int)).bind fun rv972 =>
 made_Dice_OddRecord_j4 r6 rv972.2.L rv972.2.At rv972.1 2 r6.Error r6.Run r6.Seq l13
 else
 (if (rv18.1 == 4) = true then
 (made_Dice_Pick rv18.2 ([(-1), 1099511627776, 1099511627777] : List Int)).bind fun rv1092 =>
 made_Dice_OddRecord_j5 r6 rv1092.2.L rv1092.2.At rv1092.1 r6.Run r6.Seq l13
 else
 (if (rv18.1 == 5) = true then
 (made_Dice_Pick rv18.2 ([(-1), 65535, 65536] : List Int)).bind fun rv1186 =>
 made_Dice_OddRecord_j6 r6 rv1186.2.L rv1186.2.At rv1186.1 r6.Seq l13
 else
 (if (rv18.1 == 6) = true then
 (made_Dice_Pick rv18.2 ([(-1), 1073741824, 1073741825] : List Int)).bind fun rv1255 =>
 made_Dice_OddRecord_j7 r6 rv1255.2.L rv1255.2.At rv1255.1 l13
 else
 (if (rv18.1 == 7) = true then
 (made_Dice_Pick rv18.2 ([1073741823, 1073741824, (-1073741824)] : List Int)).bind fun rv1300 =>
 (appM 8 l13 ([rv1300.1] : List Int)).bind fun l1307 =>
 made_Dice_OddRecord_j8 r6 rv1300.2.L rv1300.2.At l1307
 else
 (if (rv18.1 == 8) = true then
 made_Dice_OddRecord_j9 r6 rv18 ([] : List Int)
 else
 made_Dice_OddRecord_j9 r6 rv18 l13)))))))))
noncomputable def compose_Order (l1 : (List Record)) : Option ((List Record) × Int) :=
 (compose_Valid l1).bind fun rv6 =>
 (if (!rv6) = true then
 some (([] : List Record), 1)
 else
 (compose_order l1).bind fun rv15 =>
 some (rv15, 0))
noncomputable def ref03_code_l2 (s1 : ByteArray) (lo2 : Int) (hi3 : Int) (sv111 : Int) : Option (Int ⊕ Bool) :=
 (if (decide (sv111 < (s1.size : Int))) = true then
 (byteAt s1 sv111).bind fun c254 =>
 ((if (decide (65 ≤ c254)) = true then
 (byteAt s1 sv111).bind fun c261 =>
 some (decide (c261 ≤ 90))
 else
 some false)).bind fun c258 =>
 ((if c258 = true then
 some true
 else
 (byteAt s1 sv111).bind fun c275 =>
 ((if (decide (48 ≤ c275)) = true then
 (byteAt s1 sv111).bind fun c282 =>
 some (decide (c282 ≤ 57))
 else
 some false)).bind fun c279 =>
 some c279)).bind fun c272 =>
 (if (!c272) = true then
 some (Sum.inr false)
 else
 (some (w64 (sv111 + 1))).bind fun i287 =>
 some (Sum.inl i287))
 else
 Option.map Sum.inr (some ((decide (lo2 ≤ (s1.size : Int))) && (decide ((s1.size : Int) ≤ hi3)))))
noncomputable def ref03_code (s1 : ByteArray) (lo2 : Int) (hi3 : Int) : Option Bool :=
 whileM (ref03_code_l2 s1 lo2 hi3) (0)
noncomputable def ref03_Valid (s1 : SourceID) : Option Bool :=
 (ref03_code s1.Network 1 2).bind fun rv4 =>
 ((if rv4 = true then
 (ref03_code s1.Station 1 5).bind fun rv21 =>
 some rv21
 else
 some false)).bind fun c18 =>
 ((if c18 = true then
 ((if (s1.Location.toList == (⟨#[]⟩ : ByteArray).toList) = true then
 some true
 else
 (ref03_code s1.Location 2 2).bind fun rv58 =>
 some rv58)).bind fun c55 =>
 some c55
 else
 some false)).bind fun c45 =>
 ((if c45 = true then
 (ref03_code s1.Channel 3 3).bind fun rv75 =>
 some rv75
 else
 some false)).bind fun c72 =>
 some c72
noncomputable def ref02_Valid (r1 : Rate) : Option Bool :=
 (ref01_In r1.Num 1 4096).bind fun rv4 =>
 ((if rv4 = true then
 (ref01_In r1.Den 1 4096).bind fun rv21 =>
 some rv21
 else
 some false)).bind fun c18 =>
 ((if c18 = true then
 (ref02_gcd r1.Num r1.Den).bind fun rv38 =>
 some (rv38 == 1)
 else
 some false)).bind fun c35 =>
 some c35
noncomputable def ref05_Sample (n1 : Int) : Option Bool :=
 (ref01_In n1 (-1073741823) 1073741823).bind fun rv3 =>
 some rv3
noncomputable def ref05_InRange_l2 (l1 : (List Int)) (sv82 : Int) : Option (Int ⊕ Bool) :=
 (if (decide (sv82 < (l1.length : Int))) = true then
 (ix l1 sv82).bind fun x186 =>
 (ref05_Sample x186).bind fun rv198 =>
 (if (!rv198) = true then
 some (Sum.inr false)
 else
 (some (w64 (sv82 + 1))).bind fun i208 =>
 some (Sum.inl i208))
 else
 Option.map Sum.inr (some true))
noncomputable def ref05_InRange (l1 : (List Int)) : Option Bool :=
 whileM (ref05_InRange_l2 l1) (0)
noncomputable def ref02_Time (start1 : Int) (r2 : Rate) (k3 : Int) : Option (Int × Int) :=
 (ref02_Valid r2).bind fun rv6 =>
 (if (!rv6) = true then
 some (0, 1)
 else
 (ref01_In start1 0 9007199254740992).bind fun rv15 =>
 ((if (!rv15) = true then
 some true
 else
 (ref01_In k3 0 16777216).bind fun rv32 =>
 some (!rv32))).bind fun c29 =>
 (if c29 = true then
 some (0, 2)
 else
 (quoM .i64 (w64 ((w64 (k3 * r2.Den)) * 1000000)) r2.Num).bind fun quo41 =>
 (some (w64 (start1 + quo41))).bind fun x43 =>
 some (x43, 0)))
noncomputable def ref14_Time (r1 : Record) (i5 : Int) : Option Int :=
 (ref02_Time r1.Start r1.Rate (w64 (r1.First + i5))).bind fun rv8 =>
 some rv8.1
noncomputable def ref14_Valid (r1 : Record) : Option Bool :=
 (ref03_Valid r1.Source).bind fun rv7 =>
 ((if (!rv7) = true then
 some true
 else
 (ref02_Valid r1.Rate).bind fun rv24 =>
 some (!rv24))).bind fun c21 =>
 ((if c21 = true then
 some true
 else
 (ref01_In r1.Start 0 9007199254740992).bind fun rv41 =>
 some (!rv41))).bind fun c38 =>
 ((if c38 = true then
 some true
 else
 (ref01_In r1.First 0 16777216).bind fun rv58 =>
 some (!rv58))).bind fun c55 =>
 ((if c55 = true then
 some true
 else
 (ref01_In (r1.Samples.length : Int) 1 65536).bind fun rv75 =>
 some (!rv75))).bind fun c72 =>
 ((if (c72 || (decide (16777216 < (w64 (r1.First + (r1.Samples.length : Int)))))) = true then
 some true
 else
 (ref05_InRange r1.Samples).bind fun rv93 =>
 some (!rv93))).bind fun c90 =>
 (if c90 = true then
 some false
 else
 (ref01_In r1.Error 0 1099511627776).bind fun rv102 =>
 ((if rv102 = true then
 (ref01_In r1.Run 0 65535).bind fun rv119 =>
 some rv119
 else
 some false)).bind fun c116 =>
 ((if c116 = true then
 (ref01_In r1.Seq 0 1073741824).bind fun rv136 =>
 some rv136
 else
 some false)).bind fun c133 =>
 ((if c133 = true then
 (ref14_Time r1 (r1.Samples.length : Int)).bind fun rv153 =>
 some (decide (rv153 ≤ 9007199254740992))
 else
 some false)).bind fun c150 =>
 some c150)
noncomputable def ref15_fine_l2 (l1 : (List Record)) (sv157 : Int) : Option (Int ⊕ Bool) :=
 (if (decide (sv157 < (l1.length : Int))) = true then
 (ix l1 sv157).bind fun x361 =>
 (ref14_Valid x361).bind fun rv377 =>
 (if (!rv377) = true then
 some true
 else
 (ix l1 sv157).bind fun x380 =>
 (ix l1 0).bind fun x392 =>
 some (!((x380.Source.Network == x392.Source.Network) && ((x380.Source.Station == x392.Source.Station) && ((x380.Source.Location == x392.Source.Location) && ((x380.Source.Channel == x392.Source.Channel) && true)))))).bind fun c402 =>
 (if c402 = true then
 some (Sum.inr false)
 else
 (some (w64 (sv157 + 1))).bind fun i445 =>
 some (Sum.inl i445))
 else
 Option.map Sum.inr (some true))
noncomputable def ref15_fine (l1 : (List Record)) : Option Bool :=
 whileM (ref15_fine_l2 l1) (0)
noncomputable def ref15_Valid (l1 : (List Record)) : Option Bool :=
 ((if (decide ((l1.length : Int) ≤ 256)) = true then
 (ref15_fine l1).bind fun rv16 =>
 some rv16
 else
 some false)).bind fun c13 =>
 some c13
noncomputable def ref03_compare (a1 : ByteArray) (b2 : ByteArray) : Option Int :=
 (if (Op.bytesLess a1.toList b2.toList) = true then
 some (-1)
 else
 (if (!((Op.bytesLess a1.toList b2.toList) || (a1.toList == b2.toList))) = true then
 some 1
 else
 some 0))
noncomputable def ref03_Compare_l2 (rv6 : Int) (rv8 : Int) (rv10 : Int) (rv12 : Int) (sv51 : Int) : Option (Int ⊕ Int) :=
 (if (decide (sv51 < 4)) = true then
 (ix ([rv6, rv8, rv10, rv12] : List Int) sv51).bind fun x76 =>
 (if (x76 != 0) = true then
 some (Sum.inr x76)
 else
 some (Sum.inl (w64 (sv51 + 1))))
 else
 Option.map Sum.inr (some 0))
noncomputable def ref03_Compare (a1 : SourceID) (b2 : SourceID) : Option Int :=
 (ref03_compare a1.Network b2.Network).bind fun rv6 =>
 (ref03_compare a1.Station b2.Station).bind fun rv8 =>
 (ref03_compare a1.Location b2.Location).bind fun rv10 =>
 (ref03_compare a1.Channel b2.Channel).bind fun rv12 =>
 whileM (ref03_Compare_l2 rv6 rv8 rv10 rv12) (0)
noncomputable def ref14_number (a1 : Int) (b2 : Int) : Option Int :=
 (if (decide (a1 < b2)) = true then
 some (-1)
 else
 (if (decide (b2 < a1)) = true then
 some 1
 else
 some 0))
noncomputable def ref14_Compare_l4 (a1 : Record) (b5 : Record) (sv266 : Int) : Option (Int ⊕ Int) :=
 (if (decide (sv266 < (a1.Samples.length : Int))) = true then
 (ix a1.Samples sv266).bind fun x406 =>
 (ix b5.Samples sv266).bind fun x419 =>
 (ref14_number x406 x419).bind fun rv431 =>
 (if (rv431 != 0) = true then
 some (Sum.inr rv431)
 else
 (some (w64 (sv266 + 1))).bind fun i442 =>
 some (Sum.inl i442))
 else
 Option.map Sum.inr (some 0))
noncomputable def ref14_Compare_l2 (a1 : Record) (b5 : Record) (rv46 : Int) (rv48 : Int) (rv50 : Int) (rv52 : Int) (rv54 : Int) (rv56 : Int) (rv58 : Int) (rv60 : Int) (rv62 : Int) (rv64 : Int) (sv133 : Int) : Option (Int ⊕ Int) :=
 (if (decide (sv133 < 10)) = true then
 (ix ([rv46, rv48, rv50, rv52, rv54, rv56, rv58, rv60, rv62, rv64] : List Int) sv133).bind fun x158 =>
 (if (x158 != 0) = true then
 some (Sum.inr x158)
 else
 some (Sum.inl (w64 (sv133 + 1))))
 else
 Option.map Sum.inr (whileM (ref14_Compare_l4 a1 b5) (0)))
noncomputable def ref14_Compare_j2 (a1 : Record) (b5 : Record) (x27 : Int) (y44 : Int) : Option Int :=
 (ref03_Compare a1.Source b5.Source).bind fun rv46 =>
 (ref14_number x27 y44).bind fun rv48 =>
 (ref14_number a1.Start b5.Start).bind fun rv50 =>
 (ref14_number a1.First b5.First).bind fun rv52 =>
 (ref14_number a1.Rate.Num b5.Rate.Num).bind fun rv54 =>
 (ref14_number a1.Rate.Den b5.Rate.Den).bind fun rv56 =>
 (ref14_number a1.Error b5.Error).bind fun rv58 =>
 (ref14_number a1.Run b5.Run).bind fun rv60 =>
 (ref14_number a1.Seq b5.Seq).bind fun rv62 =>
 (ref14_number (a1.Samples.length : Int) (b5.Samples.length : Int)).bind fun rv64 =>
 whileM (ref14_Compare_l2 a1 b5 rv46 rv48 rv50 rv52 rv54 rv56 rv58 rv60 rv62 rv64) (0)
noncomputable def ref14_Compare_j1 (a1 : Record) (b5 : Record) (x27 : Int) : Option Int :=
 (ref14_Valid b5).bind fun rv29 =>
 (if rv29 = true then
 (ref14_Time b5 0).bind fun rv449 =>
 ref14_Compare_j2 a1 b5 x27 rv449
 else
 ref14_Compare_j2 a1 b5 x27 0)
noncomputable def ref14_Compare (a1 : Record) (b5 : Record) : Option Int :=
 (ref14_Valid a1).bind fun rv12 =>
 (if rv12 = true then
 (ref14_Time a1 0).bind fun rv457 =>
 ref14_Compare_j1 a1 b5 rv457
 else
 ref14_Compare_j1 a1 b5 0)
noncomputable def ref15_order_j1 (sv5 : ((List Record) × Int)) (out1028 : (List Record)) : Option (((List Record) × Int) ⊕ (List Record)) :=
 (some (w64 (sv5.2 + 1))).bind fun i1030 =>
 some (Sum.inl (out1028, i1030))
noncomputable def ref15_order_l6 (l1 : (List Record)) (sv5 : ((List Record) × Int)) (sv1033 : Int) : Option (Int ⊕ Int) :=
 (if (decide (0 < sv1033)) = true then
 (ix sv5.1 (w64 (sv1033 - 1))).bind fun x1166 =>
 (ix l1 sv5.2).bind fun x1183 =>
 (ref14_Compare x1166 x1183).bind fun rv1199 =>
 some (decide (0 < rv1199))
 else
 some false).bind fun c1200 =>
 (if c1200 = true then
 (some (w64 (sv1033 - 1))).bind fun k1251 =>
 some (Sum.inl k1251)
 else
 some (Sum.inr sv1033))
noncomputable def ref15_order_l3 (l1 : (List Record)) (sv5 : ((List Record) × Int)) : Option (((List Record) × Int) ⊕ (List Record)) :=
 (if (decide (sv5.2 < (l1.length : Int))) = true then
 (some (sv5.1.length : Int)).bind fun k1032 =>
 (whileM (ref15_order_l6 l1 sv5) (k1032)).bind fun e1162 =>
 (if (decide (0 < e1162)) = true then
 (ix sv5.1 (w64 (e1162 - 1))).bind fun x1255 =>
 (ix l1 sv5.2).bind fun x1272 =>
 (ref14_Compare x1255 x1272).bind fun rv1288 =>
 some (rv1288 == 0)
 else
 some false).bind fun c1289 =>
 (if c1289 = true then
 ref15_order_j1 sv5 sv5.1
 else
 (ix l1 sv5.2).bind fun x1339 =>
 (appM 144 sv5.1 ([x1339] : List Record)).bind fun l1357 =>
 (subM l1357 (w64 (e1162 + 1)) (l1357.length : Int)).bind fun l1365 =>
 (subM l1357 e1162 (l1357.length : Int)).bind fun l1370 =>
 (some (copyM l1357 (w64 (e1162 + 1)) (l1357.length : Int) l1370)).bind fun l1371 =>
 (ix l1 sv5.2).bind fun x1381 =>
 (ix l1371 e1162).bind fun x1393 =>
 (setM l1371 e1162 x1381).bind fun l1409 =>
 ref15_order_j1 sv5 l1409)
 else
 some (Sum.inr sv5.1))
noncomputable def ref15_order (l1 : (List Record)) : Option (List Record) :=
 (whileM (ref15_order_l3 l1) (([] : List Record), 0)).bind fun e773 =>
 some e773
noncomputable def ref15_Order (l1 : (List Record)) : Option ((List Record) × Int) :=
 (ref15_Valid l1).bind fun rv6 =>
 (if (!rv6) = true then
 some (([] : List Record), 1)
 else
 (ref15_order l1).bind fun rv15 =>
 some (rv15, 0))
noncomputable def ref14_Better_l2 (a1 : Record) (b5 : Record) (rv12 : Int) (rv14 : Int) (rv16 : Int) (sv50 : Int) : Option (Int ⊕ Bool) :=
 (if (decide (sv50 < 3)) = true then
 (ix ([rv12, rv14, rv16] : List Int) sv50).bind fun x75 =>
 (if (x75 != 0) = true then
 some (Sum.inr (decide (x75 < 0)))
 else
 some (Sum.inl (w64 (sv50 + 1))))
 else
 Option.map Sum.inr ((ref14_Compare a1 b5).bind fun rv80 =>
 some (decide (rv80 < 0))))
noncomputable def ref14_Better (a1 : Record) (b5 : Record) : Option Bool :=
 (ref14_number a1.Error b5.Error).bind fun rv12 =>
 (ref14_number b5.Run a1.Run).bind fun rv14 =>
 (ref14_number b5.Seq a1.Seq).bind fun rv16 =>
 whileM (ref14_Better_l2 a1 b5 rv12 rv14 rv16) (0)
noncomputable def ref14_Span (r1 : Record) : Option (Span × Int) :=
 (ref14_Valid r1).bind fun rv8 =>
 (if (!rv8) = true then
 some ((⟨0, 0⟩ : Span), 1)
 else
 (ref14_Time r1 0).bind fun rv17 =>
 (ref14_Time r1 (r1.Samples.length : Int)).bind fun rv19 =>
 some ((⟨rv17, rv19⟩ : Span), 0))
noncomputable def ref08_Normal_j1 (sv5 : ((List Span) × Int)) (sorted716 : (List Span)) : Option (((List Span) × Int) ⊕ (List Span)) :=
 (some (w64 (sv5.2 + 1))).bind fun i718 =>
 some (Sum.inl (sorted716, i718))
noncomputable def ref08_Normal_l6 (l1 : (List Span)) (sv5 : ((List Span) × Int)) (sv745 : Int) : Option (Int ⊕ Int) :=
 (if (decide (0 < sv745)) = true then
 (ix sv5.1 (w64 (sv745 - 1))).bind fun x833 =>
 (ix l1 sv5.2).bind fun x846 =>
 some (decide (x846.From < x833.From))
 else
 some false).bind fun c852 =>
 (if c852 = true then
 (some (w64 (sv745 - 1))).bind fun k883 =>
 some (Sum.inl k883)
 else
 some (Sum.inr sv745))
noncomputable def ref08_Normal_l3 (l1 : (List Span)) (sv5 : ((List Span) × Int)) : Option (((List Span) × Int) ⊕ (List Span)) :=
 (if (decide (sv5.2 < (l1.length : Int))) = true then
 (ix l1 sv5.2).bind fun x721 =>
 (ix l1 sv5.2).bind fun x734 =>
 (if (decide (x734.To ≤ x721.From)) = true then
 ref08_Normal_j1 sv5 sv5.1
 else
 (some (sv5.1.length : Int)).bind fun k744 =>
 (whileM (ref08_Normal_l6 l1 sv5) (k744)).bind fun e829 =>
 (ix l1 sv5.2).bind fun x887 =>
 (appM 16 sv5.1 ([x887] : List Span)).bind fun l896 =>
 (subM l896 (w64 (e829 + 1)) (l896.length : Int)).bind fun l904 =>
 (subM l896 e829 (l896.length : Int)).bind fun l909 =>
 (some (copyM l896 (w64 (e829 + 1)) (l896.length : Int) l909)).bind fun l910 =>
 (ix l1 sv5.2).bind fun x920 =>
 (ix l910 e829).bind fun x928 =>
 (setM l910 e829 x920).bind fun l940 =>
 ref08_Normal_j1 sv5 l940)
 else
 some (Sum.inr sv5.1))
noncomputable def ref08_Normal_j4 (sv945 : ((List Span) × Int)) (out1475 : (List Span)) : Option (((List Span) × Int) ⊕ (List Span)) :=
 (some (w64 (sv945.2 + 1))).bind fun i1477 =>
 some (Sum.inl (out1475, i1477))
noncomputable def ref08_Normal_l7 (e539 : (List Span)) (sv945 : ((List Span) × Int)) : Option (((List Span) × Int) ⊕ (List Span)) :=
 (if (decide (sv945.2 < (e539.length : Int))) = true then
 (some (sv945.1.length : Int)).bind fun n1352 =>
 (if (decide (0 < n1352)) = true then
 (ix e539 sv945.2).bind fun x1355 =>
 (ix sv945.1 (w64 (n1352 - 1))).bind fun x1368 =>
 some (decide (x1355.From ≤ x1368.To))
 else
 some false).bind fun c1379 =>
 (if c1379 = true then
 (ix sv945.1 (w64 (n1352 - 1))).bind fun x1481 =>
 (ix e539 sv945.2).bind fun x1494 =>
 (ix sv945.1 (w64 (n1352 - 1))).bind fun x1507 =>
 (setM sv945.1 (w64 (n1352 - 1)) (⟨x1507.From, (max x1481.To x1494.To)⟩ : Span)).bind fun l1515 =>
 ref08_Normal_j4 sv945 l1515
 else
 (ix e539 sv945.2).bind fun x1521 =>
 (appM 16 sv945.1 ([x1521] : List Span)).bind fun l1535 =>
 ref08_Normal_j4 sv945 l1535)
 else
 some (Sum.inr sv945.1))
noncomputable def ref08_Normal (l1 : (List Span)) : Option (List Span) :=
 (whileM (ref08_Normal_l3 l1) (([] : List Span), 0)).bind fun e539 =>
 (whileM (ref08_Normal_l7 e539) (([] : List Span), 0)).bind fun e1248 =>
 some e1248
noncomputable def ref08_Union (a1 : (List Span)) (b5 : (List Span)) : Option (List Span) :=
 (appM 16 ([] : List Span) a1).bind fun l10 =>
 (appM 16 l10 b5).bind fun l15 =>
 (ref08_Normal l15).bind fun rv20 =>
 some rv20
noncomputable def ref08_Meet_j1 (sv871 : ((List Span) × Int)) (out1193 : (List Span)) : Option (((List Span) × Int) ⊕ (List Span)) :=
 (some (w64 (sv871.2 + 1))).bind fun k1195 =>
 some (Sum.inl (out1193, k1195))
noncomputable def ref08_Meet_l6 (rv10 : (List Span)) (rv21 : (List Span)) (sv31 : ((List Span) × Int)) (sv871 : ((List Span) × Int)) : Option (((List Span) × Int) ⊕ (List Span)) :=
 (if (decide (sv871.2 < (rv21.length : Int))) = true then
 (ix rv10 sv31.2).bind fun x1137 =>
 (ix rv21 sv871.2).bind fun x1150 =>
 (ix rv10 sv31.2).bind fun x1163 =>
 (ix rv21 sv871.2).bind fun x1172 =>
 (if (decide ((max x1137.From x1150.From) < (min x1163.To x1172.To))) = true then
 (appM 16 sv871.1 ([(⟨(max x1137.From x1150.From), (min x1163.To x1172.To)⟩ : Span)] : List Span)).bind fun l1200 =>
 ref08_Meet_j1 sv871 l1200
 else
 ref08_Meet_j1 sv871 sv871.1)
 else
 some (Sum.inr sv871.1))
noncomputable def ref08_Meet_l3 (rv10 : (List Span)) (rv21 : (List Span)) (sv31 : ((List Span) × Int)) : Option (((List Span) × Int) ⊕ (List Span)) :=
 (if (decide (sv31.2 < (rv10.length : Int))) = true then
 (whileM (ref08_Meet_l6 rv10 rv21 sv31) (sv31.1, 0)).bind fun e1069 =>
 (some (w64 (sv31.2 + 1))).bind fun i1206 =>
 some (Sum.inl (e1069, i1206))
 else
 some (Sum.inr sv31.1))
noncomputable def ref08_Meet (a1 : (List Span)) (b5 : (List Span)) : Option (List Span) :=
 (ref08_Normal a1).bind fun rv10 =>
 (ref08_Normal b5).bind fun rv21 =>
 (whileM (ref08_Meet_l3 rv10 rv21) (([] : List Span), 0)).bind fun e661 =>
 (ref08_Normal e661).bind fun rv1210 =>
 some rv1210
noncomputable def ref08_Cut (l1 : (List Span)) (from5 : Int) (to6 : Int) : Option (List Span) :=
 (ref08_Meet l1 ([(⟨from5, to6⟩ : Span)] : List Span)).bind fun rv10 =>
 some rv10
noncomputable def ref14_Sub (r1 : Record) (from5 : Int) (to6 : Int) : Option (Record × Int) :=
 (ref14_Valid r1).bind fun rv10 =>
 (if (!rv10) = true then
 some ((⟨(⟨ByteArray.empty, ByteArray.empty, ByteArray.empty, ByteArray.empty⟩ : SourceID), 0, 0, (⟨0, 0⟩ : Rate), 0, 0, 0, ([] : List Int)⟩ : Record), 1)
 else
 (if (((decide (from5 < 0)) || (decide (to6 ≤ from5))) || (decide ((r1.Samples.length : Int) < to6))) = true then
 some ((⟨(⟨ByteArray.empty, ByteArray.empty, ByteArray.empty, ByteArray.empty⟩ : SourceID), 0, 0, (⟨0, 0⟩ : Rate), 0, 0, 0, ([] : List Int)⟩ : Record), 2)
 else
 (subM r1.Samples from5 to6).bind fun l28 =>
 (appM 8 ([] : List Int) l28).bind fun l30 =>
 some ((⟨r1.Source, r1.Start, (w64 (r1.First + from5)), r1.Rate, r1.Error, r1.Run, r1.Seq, l30⟩ : Record), 0)))
noncomputable def ref15_Compose_j1 (sv2521 : ((List Span) × Int)) (better2927 : (List Span)) : Option (((List Span) × Int) ⊕ (List Span)) :=
 (some (w64 (sv2521.2 + 1))).bind fun k2929 =>
 some (Sum.inl (better2927, k2929))
noncomputable def ref15_Compose_l10 (rv15 : (List Record)) (sv25 : ((List Record) × Int)) (sv2521 : ((List Span) × Int)) : Option (((List Span) × Int) ⊕ (List Span)) :=
 (if (decide (sv2521.2 < (rv15.length : Int))) = true then
 (ix rv15 sv2521.2).bind fun x2850 =>
 (ix rv15 sv25.2).bind fun x2867 =>
 (ref14_Better x2850 x2867).bind fun rv2879 =>
 (if rv2879 = true then
 (ix rv15 sv2521.2).bind fun x2933 =>
 (ref14_Span x2933).bind fun rv2945 =>
 (ref08_Union sv2521.1 ([rv2945.1] : List Span)).bind fun rv2955 =>
 ref15_Compose_j1 sv2521 rv2955
 else
 ref15_Compose_j1 sv2521 sv2521.1)
 else
 some (Sum.inr sv2521.1))
noncomputable def ref15_Compose_j4 (sv2968 : ((List Record) × Int × Int)) (out3598 : (List Record)) (first3599 : Int) : Option (((List Record) × Int × Int) ⊕ (List Record)) :=
 (some (w64 (sv2968.2.2 + 1))).bind fun j3601 =>
 some (Sum.inl (out3598, first3599, j3601))
noncomputable def ref15_Compose_j3 (rv15 : (List Record)) (sv25 : ((List Record) × Int)) (sv2968 : ((List Record) × Int × Int)) (c3499 : Bool) (first3558 : Int) : Option (((List Record) × Int × Int) ⊕ (List Record)) :=
 (if ((!c3499) && (decide (0 ≤ first3558))) = true then
 (ix rv15 sv25.2).bind fun x3605 =>
 (ref14_Sub x3605 first3558 sv2968.2.2).bind fun rv3617 =>
 (appM 144 sv2968.1 ([rv3617.1] : List Record)).bind fun l3632 =>
 ref15_Compose_j4 sv2968 l3632 (-1)
 else
 ref15_Compose_j4 sv2968 sv2968.1 first3558)
noncomputable def ref15_Compose_l11 (rv15 : (List Record)) (sv25 : ((List Record) × Int)) (e2766 : (List Span)) (sv2968 : ((List Record) × Int × Int)) : Option (((List Record) × Int × Int) ⊕ (List Record)) :=
 (ix rv15 sv25.2).bind fun x3337 =>
 (if (decide (sv2968.2.2 ≤ (x3337.Samples.length : Int))) = true then
 (ix rv15 sv25.2).bind fun x3452 =>
 (if (decide (sv2968.2.2 < (x3452.Samples.length : Int))) = true then
 (ix rv15 sv25.2).bind fun x3465 =>
 (ref14_Time x3465 sv2968.2.2).bind fun rv3477 =>
 (ix rv15 sv25.2).bind fun x3480 =>
 (ref14_Time x3480 (w64 (sv2968.2.2 + 1))).bind fun rv3492 =>
 (ref08_Cut e2766 rv3477 rv3492).bind fun rv3494 =>
 some ((rv3494.length : Int) == 0)
 else
 some false).bind fun c3499 =>
 (if (c3499 && (decide (sv2968.2.1 < 0))) = true then
 ref15_Compose_j3 rv15 sv25 sv2968 c3499 sv2968.2.2
 else
 ref15_Compose_j3 rv15 sv25 sv2968 c3499 sv2968.2.1)
 else
 some (Sum.inr sv2968.1))
noncomputable def ref15_Compose_l5 (rv15 : (List Record)) (sv25 : ((List Record) × Int)) : Option (((List Record) × Int) ⊕ (List Record)) :=
 (if (decide (sv25.2 < (rv15.length : Int))) = true then
 (whileM (ref15_Compose_l10 rv15 sv25) (([] : List Span), 0)).bind fun e2766 =>
 (whileM (ref15_Compose_l11 rv15 sv25 e2766) (sv25.1, (-1), 0)).bind fun e3330 =>
 (some (w64 (sv25.2 + 1))).bind fun i3639 =>
 some (Sum.inl (e3330, i3639))
 else
 some (Sum.inr sv25.1))
noncomputable def ref15_Compose (l1 : (List Record)) : Option ((List Record) × Int) :=
 (ref15_Valid l1).bind fun rv6 =>
 (if (!rv6) = true then
 some (([] : List Record), 1)
 else
 (ref15_order l1).bind fun rv15 =>
 (whileM (ref15_Compose_l5 rv15) (([] : List Record), 0)).bind fun e1897 =>
 (ref15_order e1897).bind fun rv3644 =>
 some (rv3644, 0))
noncomputable def compose_Covered_l1 (l1 : (List Record)) (sv14 : ((List Span) × Int)) : Option (((List Span) × Int) ⊕ (List Span)) :=
 (if (decide (sv14.2 < (l1.length : Int))) = true then
 (ix l1 sv14.2).bind fun x166 =>
 (compose_extent x166).bind fun rv183 =>
 (appM 16 sv14.1 ([rv183] : List Span)).bind fun l192 =>
 some (Sum.inl (l192, (w64 (sv14.2 + 1))))
 else
 some (Sum.inr sv14.1))
noncomputable def compose_Covered (l1 : (List Record)) : Option ((List Span) × Int) :=
 (compose_Valid l1).bind fun rv6 =>
 (if (!rv6) = true then
 some (([] : List Span), 1)
 else
 (whileM (compose_Covered_l1 l1) (([] : List Span), 0)).bind fun e125 =>
 (span_Normal e125).bind fun rv198 =>
 some (rv198, 0))
noncomputable def ref15_Covered_l1 (l1 : (List Record)) (sv14 : ((List Span) × Int)) : Option (((List Span) × Int) ⊕ (List Span)) :=
 (if (decide (sv14.2 < (l1.length : Int))) = true then
 (ix l1 sv14.2).bind fun x172 =>
 (ref14_Span x172).bind fun rv188 =>
 (appM 16 sv14.1 ([rv188.1] : List Span)).bind fun l198 =>
 (some (w64 (sv14.2 + 1))).bind fun i203 =>
 some (Sum.inl (l198, i203))
 else
 some (Sum.inr sv14.1))
noncomputable def ref15_Covered (l1 : (List Record)) : Option ((List Span) × Int) :=
 (ref15_Valid l1).bind fun rv6 =>
 (if (!rv6) = true then
 some (([] : List Span), 1)
 else
 (whileM (ref15_Covered_l1 l1) (([] : List Span), 0)).bind fun e131 =>
 (ref08_Normal e131).bind fun rv206 =>
 some (rv206, 0))
noncomputable def ref05_Same_l2 (a1 : (List Int)) (b5 : (List Int)) (sv109 : Int) : Option (Int ⊕ Bool) :=
 (if (decide (sv109 < (a1.length : Int))) = true then
 (ix a1 sv109).bind fun x241 =>
 (ix b5 sv109).bind fun x254 =>
 (if (x241 != x254) = true then
 some (Sum.inr false)
 else
 (some (w64 (sv109 + 1))).bind fun i270 =>
 some (Sum.inl i270))
 else
 Option.map Sum.inr (some true))
noncomputable def ref05_Same (a1 : (List Int)) (b5 : (List Int)) : Option Bool :=
 (if ((a1.length : Int) != (b5.length : Int)) = true then
 some false
 else
 whileM (ref05_Same_l2 a1 b5) (0))
noncomputable def ref14_Same (a1 : Record) (b5 : Record) : Option Bool :=
 ((if ((((((((a1.Source.Network == b5.Source.Network) && ((a1.Source.Station == b5.Source.Station) && ((a1.Source.Location == b5.Source.Location) && ((a1.Source.Channel == b5.Source.Channel) && true)))) && (a1.Start == b5.Start)) && (a1.First == b5.First)) && ((a1.Rate.Num == b5.Rate.Num) && ((a1.Rate.Den == b5.Rate.Den) && true))) && (a1.Error == b5.Error)) && (a1.Run == b5.Run)) && (a1.Seq == b5.Seq)) = true then
 (ref05_Same a1.Samples b5.Samples).bind fun rv28 =>
 some rv28
 else
 some false)).bind fun c25 =>
 some c25
noncomputable def ref14_SameList_l2 (a1 : (List Record)) (b5 : (List Record)) (sv139 : Int) : Option (Int ⊕ Bool) :=
 (if (decide (sv139 < (a1.length : Int))) = true then
 (ix a1 sv139).bind fun x311 =>
 (ix b5 sv139).bind fun x328 =>
 (ref14_Same x311 x328).bind fun rv344 =>
 (if (!rv344) = true then
 some (Sum.inr false)
 else
 (some (w64 (sv139 + 1))).bind fun i355 =>
 some (Sum.inl i355))
 else
 Option.map Sum.inr (some true))
noncomputable def ref14_SameList (a1 : (List Record)) (b5 : (List Record)) : Option Bool :=
 (if ((a1.length : Int) != (b5.length : Int)) = true then
 some false
 else
 whileM (ref14_SameList_l2 a1 b5) (0))
noncomputable def ref08_Same_l2 (a1 : (List Span)) (b5 : (List Span)) (sv109 : Int) : Option (Int ⊕ Bool) :=
 (if (decide (sv109 < (a1.length : Int))) = true then
 (ix a1 sv109).bind fun x241 =>
 (ix b5 sv109).bind fun x254 =>
 (if (!((x241.From == x254.From) && ((x241.To == x254.To) && true))) = true then
 some (Sum.inr false)
 else
 (some (w64 (sv109 + 1))).bind fun i270 =>
 some (Sum.inl i270))
 else
 Option.map Sum.inr (some true))
noncomputable def ref08_Same (a1 : (List Span)) (b5 : (List Span)) : Option Bool :=
 (if ((a1.length : Int) != (b5.length : Int)) = true then
 some false
 else
 whileM (ref08_Same_l2 a1 b5) (0))
noncomputable def ref15_find_l11 (l1 : (List Record)) (t5 : Int) (sv1124 : Int) (sv2982 : Int) : Option (Int ⊕ (Int ⊕ (Int × Int × Bool))) :=
 (ix l1 sv1124).bind fun x3352 =>
 (if (decide (sv2982 < (x3352.Samples.length : Int))) = true then
 (ix l1 sv1124).bind fun x3474 =>
 (ref14_Time x3474 sv2982).bind fun rv3485 =>
 ((if (decide (rv3485 ≤ t5)) = true then
 (ix l1 sv1124).bind fun x3515 =>
 (ref14_Time x3515 (w64 (sv2982 + 1))).bind fun rv3526 =>
 some (decide (t5 < rv3526))
 else
 some false)).bind fun c3511 =>
 (if c3511 = true then
 (ix l1 sv1124).bind fun x3576 =>
 (ref14_Time x3576 sv2982).bind fun rv3587 =>
 (ix l1 sv1124).bind fun x3590 =>
 (ix x3590.Samples sv2982).bind fun x3602 =>
 some (Sum.inr (Sum.inr (rv3587, x3602, true)))
 else
 (some (w64 (sv2982 + 1))).bind fun j3622 =>
 some (Sum.inl j3622))
 else
 Option.map Sum.inr ((some (w64 (sv1124 + 1))).bind fun i3624 =>
 some (Sum.inl i3624)))
noncomputable def ref15_find_l7 (l1 : (List Record)) (t5 : Int) (sv1124 : Int) : Option (Int ⊕ (Int × Int × Bool)) :=
 (if (decide (sv1124 < (l1.length : Int))) = true then
 whileM (ref15_find_l11 l1 t5 sv1124) (0)
 else
 Option.map Sum.inr (some (0, 0, false)))
noncomputable def ref15_find (l1 : (List Record)) (t5 : Int) : Option (Int × Int × Bool) :=
 whileM (ref15_find_l7 l1 t5) (0)
noncomputable def ref15_Value (l1 : (List Record)) (t5 : Int) : Option (Int × Bool) :=
 (ref15_Compose l1).bind fun rv7 =>
 (if (rv7.2 != 0) = true then
 some (0, false)
 else
 (ref15_find rv7.1 t5).bind fun rv20 =>
 some (rv20.2.1, rv20.2.2))
noncomputable def compose_Insert (l1 : (List Record)) (r5 : Record) : Option ((List Record) × Bool × Int) :=
 (appM 144 ([r5] : List Record) l1).bind fun l13 =>
 (compose_alike l13).bind fun rv18 =>
 (if (!rv18) = true then
 some (([] : List Record), false, 1)
 else
 (compose_order l1).bind fun rv27 =>
 (appM 144 rv27 ([r5] : List Record)).bind fun l40 =>
 (compose_order l40).bind fun rv45 =>
 (if ((decide ((rv27.length : Int) < (rv45.length : Int))) && (decide (256 < (rv45.length : Int)))) = true then
 some (([] : List Record), false, 8)
 else
 some (rv45, (decide ((rv27.length : Int) < (rv45.length : Int))), 0)))
noncomputable def ref15_Insert (l1 : (List Record)) (r5 : Record) : Option ((List Record) × Bool × Int) :=
 (ref15_Valid l1).bind fun rv11 =>
 (if (!rv11) = true then
 some true
 else
 (appM 144 ([] : List Record) l1).bind fun l13 =>
 (appM 144 l13 ([r5] : List Record)).bind fun l20 =>
 (ref15_fine l20).bind fun rv25 =>
 some (!rv25)).bind fun c26 =>
 (if c26 = true then
 some (([] : List Record), false, 1)
 else
 (ref15_order l1).bind fun rv98 =>
 (appM 144 ([] : List Record) l1).bind fun l109 =>
 (appM 144 l109 ([r5] : List Record)).bind fun l116 =>
 (ref15_order l116).bind fun rv121 =>
 (if (decide (256 < (rv121.length : Int))) = true then
 some (([] : List Record), false, 8)
 else
 some (rv121, (decide ((rv98.length : Int) < (rv121.length : Int))), 0)))
noncomputable def slices_Grow_Lapi_Record_api_Record_n_j1 (sv23 : (List Record)) : Option (List Record) :=
 some sv23
noncomputable def slices_Grow_Lapi_Record_api_Record_n (n1 : Int) : Option (List Record) :=
 (if (decide (n1 < 0)) = true then
 none
 else
 (some (w64 (n1 - (w64 (((0 : Nat) : Int) - (([] : List Record).length : Int)))))).bind fun n5 =>
 (if (decide (0 < n5)) = true then
 (subM ([] : List Record) 0 ((0 : Nat) : Int)).bind fun l28 =>
 (makeM 144 ((⟨(⟨ByteArray.empty, ByteArray.empty, ByteArray.empty, ByteArray.empty⟩ : SourceID), 0, 0, (⟨0, 0⟩ : Rate), 0, 0, 0, ([] : List Int)⟩ : Record) : Record) n5).bind fun l30 =>
 (subM l30 0 (([] : List Record).length : Int)).bind fun l36 =>
 slices_Grow_Lapi_Record_api_Record_n_j1 l36
 else
 slices_Grow_Lapi_Record_api_Record_n_j1 ([] : List Record)))
noncomputable def slices_Concat_Lapi_Record_api_Record_l1 (slices1 : (List (List Record))) (sv5 : (Int × Int)) : Option ((Int × Int) ⊕ Int) :=
 (if (decide (sv5.2 < (slices1.length : Int))) = true then
 (ix slices1 sv5.2).bind fun x100 =>
 (some (w64 (sv5.1 + (x100.length : Int)))).bind fun size116 =>
 (if (decide (size116 < 0)) = true then
 none
 else
 some (Sum.inl (size116, (w64 (sv5.2 + 1)))))
 else
 some (Sum.inr sv5.1))
noncomputable def slices_Concat_Lapi_Record_api_Record_l2 (slices1 : (List (List Record))) (sv131 : ((List Record) × Int)) : Option (((List Record) × Int) ⊕ (List Record)) :=
 (if (decide (sv131.2 < (slices1.length : Int))) = true then
 (ix slices1 sv131.2).bind fun x243 =>
 (appM 144 sv131.1 x243).bind fun l259 =>
 some (Sum.inl (l259, (w64 (sv131.2 + 1))))
 else
 some (Sum.inr sv131.1))
noncomputable def slices_Concat_Lapi_Record_api_Record (slices1 : (List (List Record))) : Option (List Record) :=
 (whileM (slices_Concat_Lapi_Record_api_Record_l1 slices1) (0, 0)).bind fun e74 =>
 (slices_Grow_Lapi_Record_api_Record_n e74).bind fun rv121 =>
 (whileM (slices_Concat_Lapi_Record_api_Record_l2 slices1) (rv121, 0)).bind fun e212 =>
 some e212
noncomputable def compose_samples_l6 (x745 : Record) (rv762 : (List Int)) (sv772 : ((Mo Compose_sample) × Int)) : Option (((Mo Compose_sample) × Int) ⊕ (Mo Compose_sample)) :=
 (if (decide (sv772.2 < (x745.Samples.length : Int))) = true then
 (ix x745.Samples sv772.2).bind fun x975 =>
 (ix rv762 sv772.2).bind fun x988 =>
 (ix rv762 sv772.2).bind fun x1001 =>
 (ix rv762 (w64 (sv772.2 + 1))).bind fun x1010 =>
 (Mo.put sv772.1 x988 (⟨x1001, x1010, x975⟩ : Compose_sample)).bind fun m1018 =>
 some (Sum.inl (m1018, (w64 (sv772.2 + 1))))
 else
 some (Sum.inr sv772.1))
noncomputable def compose_samples_l3 (l1 : (List Record)) (sv6 : ((Mo Compose_sample) × Int)) : Option (((Mo Compose_sample) × Int) ⊕ (Mo Compose_sample)) :=
 (if (decide (sv6.2 < (l1.length : Int))) = true then
 (ix l1 sv6.2).bind fun x745 =>
 (compose_times x745).bind fun rv762 =>
 (whileM (compose_samples_l6 x745 rv762) (sv6.1, 0)).bind fun e922 =>
 some (Sum.inl (e922, (w64 (sv6.2 + 1))))
 else
 some (Sum.inr sv6.1))
noncomputable def compose_samples (l1 : (List Record)) : Option (Mo Compose_sample) :=
 (whileM (compose_samples_l3 l1) ((⟨0, []⟩ : Mo Compose_sample), 0)).bind fun e558 =>
 some e558
noncomputable def span_Minus_j1 (sv699 : ((List Span) × Int × Int)) (out867 : (List Span)) (atv868 : Int) : Option (((List Span) × Int × Int) ⊕ ((List Span) × Int)) :=
 some (Sum.inl (out867, atv868, (w64 (sv699.2.2 + 1))))
noncomputable def span_Minus_j2 (sv699 : ((List Span) × Int × Int)) (x871 : Span) (out898 : (List Span)) : Option (((List Span) × Int × Int) ⊕ ((List Span) × Int)) :=
 (some (max sv699.2.1 x871.To)).bind fun atv900 =>
 span_Minus_j1 sv699 out898 atv900
noncomputable def span_Minus_l6 (rv10 : (List Span)) (x687 : Span) (sv699 : ((List Span) × Int × Int)) : Option (((List Span) × Int × Int) ⊕ ((List Span) × Int)) :=
 (if (decide (sv699.2.2 < (rv10.length : Int))) = true then
 (ix rv10 sv699.2.2).bind fun x871 =>
 (if ((decide (x871.To ≤ sv699.2.1)) || (decide (x687.To ≤ x871.From))) = true then
 span_Minus_j1 sv699 sv699.1 sv699.2.1
 else
 (if (decide (sv699.2.1 < x871.From)) = true then
 (appM 16 sv699.1 ([(⟨sv699.2.1, x871.From⟩ : Span)] : List Span)).bind fun l905 =>
 span_Minus_j2 sv699 x871 l905
 else
 span_Minus_j2 sv699 x871 sv699.1))
 else
 some (Sum.inr (sv699.1, sv699.2.1)))
noncomputable def span_Minus_j4 (sv31 : ((List Span) × Int)) (out922 : (List Span)) : Option (((List Span) × Int) ⊕ (List Span)) :=
 some (Sum.inl (out922, (w64 (sv31.2 + 1))))
noncomputable def span_Minus_l3 (rv10 : (List Span)) (rv21 : (List Span)) (sv31 : ((List Span) × Int)) : Option (((List Span) × Int) ⊕ (List Span)) :=
 (if (decide (sv31.2 < (rv21.length : Int))) = true then
 (ix rv21 sv31.2).bind fun x687 =>
 (whileM (span_Minus_l6 rv10 x687) (sv31.1, x687.From, 0)).bind fun e825 =>
 (if (decide (e825.2 < x687.To)) = true then
 (appM 16 e825.1 ([(⟨e825.2, x687.To⟩ : Span)] : List Span)).bind fun l927 =>
 span_Minus_j4 sv31 l927
 else
 span_Minus_j4 sv31 e825.1)
 else
 some (Sum.inr sv31.1))
noncomputable def span_Minus (a1 : (List Span)) (b5 : (List Span)) : Option (List Span) :=
 (span_Normal b5).bind fun rv10 =>
 (span_Normal a1).bind fun rv21 =>
 (whileM (span_Minus_l3 rv10 rv21) (([] : List Span), 0)).bind fun e520 =>
 some e520
noncomputable def compose_Latest_l1 (rv62 : (List Record)) (sv73 : ((List Span) × Int)) : Option (((List Span) × Int) ⊕ (List Span)) :=
 (if (decide (sv73.2 < (rv62.length : Int))) = true then
 (ix rv62 sv73.2).bind fun x225 =>
 (compose_extent x225).bind fun rv242 =>
 (appM 16 sv73.1 ([rv242] : List Span)).bind fun l251 =>
 some (Sum.inl (l251, (w64 (sv73.2 + 1))))
 else
 some (Sum.inr sv73.1))
noncomputable def compose_Latest_j2 (same444 : (List Span)) : Option (List Span) :=
 some same444
noncomputable def compose_Latest_l3 (rv257 : (Mo Compose_sample)) (e345 : (Int × Compose_sample)) (sv344 : (List Span)) : Option (List Span) :=
 (Mo.look rv257 e345.1 (⟨0, 0, 0⟩ : Compose_sample)).bind fun g429 =>
 (if (g429.2 && (g429.1.value_ == e345.2.value_)) = true then
 (appM 16 sv344 ([(⟨e345.1, (min e345.2.to_ g429.1.to_)⟩ : Span)] : List Span)).bind fun l449 =>
 compose_Latest_j2 l449
 else
 compose_Latest_j2 sv344)
noncomputable def compose_Latest (a1 : (List Record)) (b5 : (List Record)) : Option ((List Span) × Int) :=
 (compose_Valid a1).bind fun rv10 =>
 ((if (!rv10) = true then
 some true
 else
 (compose_Valid b5).bind fun rv27 =>
 some (!rv27))).bind fun c24 =>
 (if c24 = true then
 some (([] : List Span), 1)
 else
 (compose_compose a1).bind fun rv36 =>
 (compose_compose b5).bind fun rv47 =>
 (slices_Concat_Lapi_Record_api_Record ([rv36, rv47] : List (List Record))).bind fun rv62 =>
 (whileM (compose_Latest_l1 rv62) (([] : List Span), 0)).bind fun e184 =>
 (compose_samples rv47).bind fun rv257 =>
 (compose_samples rv36).bind fun rv265 =>
 rv265.each fun o => (foldO (compose_Latest_l3 rv257) o ([] : List Span)).bind fun sv344 =>
 (span_Minus e184 sv344).bind fun rv397 =>
 some (rv397, 0))
noncomputable def ref15_own0 (l1 : (List Span)) : Option Int :=
 (if ((l1.length : Int) == 0) = true then
 some 0
 else
 (ix l1 0).bind fun x9 =>
 some x9.From)
noncomputable def ref08_Minus_j1 (sv1336 : ((List Span) × Int × Int)) (out1690 : (List Span)) (fromv1691 : Int) : Option (((List Span) × Int × Int) ⊕ ((List Span) × Int)) :=
 (some (w64 (sv1336.2.2 + 1))).bind fun k1693 =>
 some (Sum.inl (out1690, fromv1691, k1693))
noncomputable def ref08_Minus_j2 (rv21 : (List Span)) (sv1336 : ((List Span) × Int × Int)) (out1780 : (List Span)) : Option (((List Span) × Int × Int) ⊕ ((List Span) × Int)) :=
 (ix rv21 sv1336.2.2).bind fun x1783 =>
 (some (max sv1336.2.1 x1783.To)).bind fun fromv1791 =>
 ref08_Minus_j1 sv1336 out1780 fromv1791
noncomputable def ref08_Minus_l6 (rv10 : (List Span)) (rv21 : (List Span)) (sv31 : ((List Span) × Int)) (sv1336 : ((List Span) × Int × Int)) : Option (((List Span) × Int × Int) ⊕ ((List Span) × Int)) :=
 (if (decide (sv1336.2.2 < (rv21.length : Int))) = true then
 (ix rv21 sv1336.2.2).bind fun x1696 =>
 (if (decide (x1696.To ≤ sv1336.2.1)) = true then
 some true
 else
 (ix rv21 sv1336.2.2).bind fun x1709 =>
 (ix rv10 sv31.2).bind fun x1718 =>
 some (decide (x1718.To ≤ x1709.From))).bind fun c1725 =>
 (if c1725 = true then
 ref08_Minus_j1 sv1336 sv1336.1 sv1336.2.1
 else
 (ix rv21 sv1336.2.2).bind fun x1752 =>
 (if (decide (sv1336.2.1 < x1752.From)) = true then
 (ix rv21 sv1336.2.2).bind fun x1795 =>
 (appM 16 sv1336.1 ([(⟨sv1336.2.1, x1795.From⟩ : Span)] : List Span)).bind fun l1805 =>
 ref08_Minus_j2 rv21 sv1336 l1805
 else
 ref08_Minus_j2 rv21 sv1336 sv1336.1))
 else
 some (Sum.inr (sv1336.1, sv1336.2.1)))
noncomputable def ref08_Minus_j4 (sv31 : ((List Span) × Int)) (out1840 : (List Span)) : Option (((List Span) × Int) ⊕ (List Span)) :=
 (some (w64 (sv31.2 + 1))).bind fun i1842 =>
 some (Sum.inl (out1840, i1842))
noncomputable def ref08_Minus_l3 (rv10 : (List Span)) (rv21 : (List Span)) (sv31 : ((List Span) × Int)) : Option (((List Span) × Int) ⊕ (List Span)) :=
 (if (decide (sv31.2 < (rv10.length : Int))) = true then
 (ix rv10 sv31.2).bind fun x1325 =>
 (whileM (ref08_Minus_l6 rv10 rv21 sv31) (sv31.1, x1325.From, 0)).bind fun e1603 =>
 (ix rv10 sv31.2).bind fun x1812 =>
 (if (decide (e1603.2 < x1812.To)) = true then
 (ix rv10 sv31.2).bind fun x1846 =>
 (appM 16 e1603.1 ([(⟨e1603.2, x1846.To⟩ : Span)] : List Span)).bind fun l1856 =>
 ref08_Minus_j4 sv31 l1856
 else
 ref08_Minus_j4 sv31 e1603.1)
 else
 some (Sum.inr sv31.1))
noncomputable def ref08_Minus (a1 : (List Span)) (b5 : (List Span)) : Option (List Span) :=
 (ref08_Normal a1).bind fun rv10 =>
 (ref08_Normal b5).bind fun rv21 =>
 (whileM (ref08_Minus_l3 rv10 rv21) (([] : List Span), 0)).bind fun e1000 =>
 some e1000
noncomputable def ref15_differ_j1 (sv22786 : ((List Span) × Int)) (own24589 : (List Span)) : Option (((List Span) × Int) ⊕ (List Span)) :=
 (some (w64 (sv22786.2 + 1))).bind fun k24591 =>
 some (Sum.inl (own24589, k24591))
noncomputable def ref15_differ_j2 (sv24627 : ((List Span) × Int)) (own25355 : (List Span)) : Option (((List Span) × Int) ⊕ (List Span)) :=
 (some (w64 (sv24627.2 + 1))).bind fun m25357 =>
 some (Sum.inl (own25355, m25357))
noncomputable def ref15_differ_l76 (a1 : (List Record)) (b5 : (List Record)) (sv9 : ((List Span) × Int)) (sv17073 : ((List Span) × Int)) (sv22786 : ((List Span) × Int)) (sv24627 : ((List Span) × Int)) : Option (((List Span) × Int) ⊕ (List Span)) :=
 (ix b5 sv22786.2).bind fun x25039 =>
 (if (decide (sv24627.2 < (x25039.Samples.length : Int))) = true then
 (ix b5 sv22786.2).bind fun x25169 =>
 (ref14_Time x25169 sv24627.2).bind fun rv25180 =>
 (ix b5 sv22786.2).bind fun x25183 =>
 (ref14_Time x25183 (w64 (sv24627.2 + 1))).bind fun rv25194 =>
 (ix a1 sv9.2).bind fun x25208 =>
 (ref14_Time x25208 sv17073.2).bind fun rv25219 =>
 (if (rv25180 == rv25219) = true then
 (ix b5 sv22786.2).bind fun x25222 =>
 (ix x25222.Samples sv24627.2).bind fun x25234 =>
 (ix a1 sv9.2).bind fun x25247 =>
 (ix x25247.Samples sv17073.2).bind fun x25259 =>
 some (x25234 == x25259)
 else
 some false).bind fun c25270 =>
 (if c25270 = true then
 (ref08_Minus sv24627.1 ([(⟨rv25180, rv25194⟩ : Span)] : List Span)).bind fun rv25362 =>
 ref15_differ_j2 sv24627 rv25362
 else
 ref15_differ_j2 sv24627 sv24627.1)
 else
 some (Sum.inr sv24627.1))
noncomputable def ref15_differ_l73 (a1 : (List Record)) (b5 : (List Record)) (sv9 : ((List Span) × Int)) (sv17073 : ((List Span) × Int)) (sv22786 : ((List Span) × Int)) : Option (((List Span) × Int) ⊕ (List Span)) :=
 (if (decide (sv22786.2 < (b5.length : Int))) = true then
 (ix b5 sv22786.2).bind fun x24594 =>
 (ref14_Span x24594).bind fun rv24610 =>
 (ref15_own0 sv22786.1).bind fun rv24618 =>
 (if ((decide (rv24610.1.To ≤ rv24618)) || ((sv22786.1.length : Int) == 0)) = true then
 ref15_differ_j1 sv22786 sv22786.1
 else
 (whileM (ref15_differ_l76 a1 b5 sv9 sv17073 sv22786) (sv22786.1, 0)).bind fun e25032 =>
 ref15_differ_j1 sv22786 e25032)
 else
 some (Sum.inr sv22786.1))
noncomputable def ref15_differ_l62 (a1 : (List Record)) (b5 : (List Record)) (sv9 : ((List Span) × Int)) (sv17073 : ((List Span) × Int)) : Option (((List Span) × Int) ⊕ (List Span)) :=
 (ix a1 sv9.2).bind fun x21334 =>
 (if (decide (sv17073.2 < (x21334.Samples.length : Int))) = true then
 (ix a1 sv9.2).bind fun x22747 =>
 (ref14_Time x22747 sv17073.2).bind fun rv22758 =>
 (ix a1 sv9.2).bind fun x22761 =>
 (ref14_Time x22761 (w64 (sv17073.2 + 1))).bind fun rv22772 =>
 (whileM (ref15_differ_l73 a1 b5 sv9 sv17073) (([(⟨rv22758, rv22772⟩ : Span)] : List Span), 0)).bind fun e24139 =>
 (appM 16 sv17073.1 e24139).bind fun l25378 =>
 (some (w64 (sv17073.2 + 1))).bind fun j25383 =>
 some (Sum.inl (l25378, j25383))
 else
 some (Sum.inr sv17073.1))
noncomputable def ref15_differ_l27 (a1 : (List Record)) (b5 : (List Record)) (sv9 : ((List Span) × Int)) : Option (((List Span) × Int) ⊕ (List Span)) :=
 (if (decide (sv9.2 < (a1.length : Int))) = true then
 (whileM (ref15_differ_l62 a1 b5 sv9) (sv9.1, 0)).bind fun e21327 =>
 (some (w64 (sv9.2 + 1))).bind fun i25387 =>
 some (Sum.inl (e21327, i25387))
 else
 some (Sum.inr sv9.1))
noncomputable def ref15_differ (a1 : (List Record)) (b5 : (List Record)) : Option (List Span) :=
 (whileM (ref15_differ_l27 a1 b5) (([] : List Span), 0)).bind fun e12807 =>
 (ref08_Normal e12807).bind fun rv25391 =>
 some rv25391
noncomputable def ref15_Latest (a1 : (List Record)) (b5 : (List Record)) : Option ((List Span) × Int) :=
 (ref15_Compose a1).bind fun rv10 =>
 (ref15_Compose b5).bind fun rv21 =>
 (if ((rv10.2 != 0) || (rv21.2 != 0)) = true then
 some (([] : List Span), 1)
 else
 (ref15_differ rv10.1 rv21.1).bind fun rv35 =>
 (ref15_differ rv21.1 rv10.1).bind fun rv48 =>
 (ref08_Union rv35 rv48).bind fun rv59 =>
 some (rv59, 0))
noncomputable def law15_ComposeExact_l22 (rv283 : ((List Record) × Dice)) (sv1934 : ((List Int) × Int × Int)) (x3980 : (List Record)) (rv4155 : (Int × Dice)) (l4403 : (List Record)) (sv4592 : Int) : Option (Int ⊕ (((List Int) × Int × Int) ⊕ Bool)) :=
 (if (decide (sv4592 < (l4403.length : Int))) = true then
 (ix l4403 sv4592).bind fun x4842 =>
 (compose_Insert x3980 x4842).bind fun rv4859 =>
 (ref15_Insert x3980 x4842).bind fun rv4870 =>
 ((if ((!(rv4859.2.1 == rv4870.2.1)) || (rv4859.2.2 != rv4870.2.2)) = true then
 some true
 else
 (ref14_SameList rv4859.1 rv4870.1).bind fun rv4892 =>
 some (!rv4892))).bind fun c4889 =>
 (if c4889 = true then
 some (Sum.inr (Sum.inr false))
 else
 some (Sum.inl (w64 (sv4592 + 1))))
 else
 Option.map Sum.inr ((compose_Latest rv283.1 x3980).bind fun rv4903 =>
 (ref15_Latest rv283.1 x3980).bind fun rv4914 =>
 ((if (rv4903.2 != rv4914.2) = true then
 some true
 else
 (ref08_Same rv4903.1 rv4914.1).bind fun rv4935 =>
 some (!rv4935))).bind fun c4932 =>
 (if c4932 = true then
 some (Sum.inr false)
 else
 some (Sum.inl (rv4155.2.L, rv4155.2.At, (w64 (sv1934.2.2 + 1)))))))
noncomputable def law15_ComposeExact_l20 (x9 : Int) (rv283 : ((List Record) × Dice)) (rv297 : ((List Record) × Dice)) (sv1934 : ((List Int) × Int × Int)) (x3980 : (List Record)) (rv4145 : (Int × Dice)) (rv4155 : (Int × Dice)) (sv4252 : Int) : Option (Int ⊕ (((List Int) × Int × Int) ⊕ Bool)) :=
 (if (decide (sv4252 < (([x9, (w64 (1000000000000 + (w64 (125000 * rv4145.1)))), (w64 (1000000000000 + (w64 (250000 * rv4155.1))))] : List Int).length : Int))) = true then
 (ix ([x9, (w64 (1000000000000 + (w64 (125000 * rv4145.1)))), (w64 (1000000000000 + (w64 (250000 * rv4155.1))))] : List Int) sv4252).bind fun x4370 =>
 (compose_Value x3980 x4370).bind fun rv4378 =>
 (ref15_Value x3980 x4370).bind fun rv4385 =>
 (if ((rv4378.1 != rv4385.1) || (!(rv4378.2 == rv4385.2))) = true then
 some (Sum.inr (Sum.inr false))
 else
 some (Sum.inl (w64 (sv4252 + 1))))
 else
 Option.map Sum.inr ((appM 144 ([] : List Record) rv297.1).bind fun l4398 =>
 (appM 144 l4398 rv283.1).bind fun l4403 =>
 whileM (law15_ComposeExact_l22 rv283 sv1934 x3980 rv4155 l4403) (0)))
noncomputable def law15_ComposeExact_l14 (raw5 : (List Record)) (x9 : Int) (rv283 : ((List Record) × Dice)) (rv297 : ((List Record) × Dice)) (odd385 : (List Record)) (l392 : (List Record)) (sv1934 : ((List Int) × Int × Int)) : Option (((List Int) × Int × Int) ⊕ Bool) :=
 (if (decide (sv1934.2.2 < (([rv283.1, odd385, raw5, l392] : List (List Record)).length : Int))) = true then
 (ix ([rv283.1, odd385, raw5, l392] : List (List Record)) sv1934.2.2).bind fun x3980 =>
 (compose_Order x3980).bind fun rv3992 =>
 (ref15_Order x3980).bind fun rv4003 =>
 (compose_Compose x3980).bind fun rv4014 =>
 (ref15_Compose x3980).bind fun rv4025 =>
 (compose_Covered x3980).bind fun rv4036 =>
 (ref15_Covered x3980).bind fun rv4047 =>
 ((if (rv3992.2 != rv4003.2) = true then
 some true
 else
 (ref14_SameList rv3992.1 rv4003.1).bind fun rv4068 =>
 some (!rv4068))).bind fun c4065 =>
 ((if (c4065 || (rv4014.2 != rv4025.2)) = true then
 some true
 else
 (ref14_SameList rv4014.1 rv4025.1).bind fun rv4086 =>
 some (!rv4086))).bind fun c4083 =>
 ((if (c4083 || (rv4036.2 != rv4047.2)) = true then
 some true
 else
 (ref08_Same rv4036.1 rv4047.1).bind fun rv4104 =>
 some (!rv4104))).bind fun c4101 =>
 ((if c4101 = true then
 some true
 else
 (compose_Valid x3980).bind fun rv4128 =>
 (ref15_Valid x3980).bind fun rv4135 =>
 some (!(rv4128 == rv4135)))).bind fun c4125 =>
 (if c4125 = true then
 some (Sum.inr false)
 else
 (made_Dice_Next (⟨sv1934.1, sv1934.2.1⟩ : Dice) 120).bind fun rv4145 =>
 (made_Dice_Next rv4145.2 60).bind fun rv4155 =>
 whileM (law15_ComposeExact_l20 x9 rv283 rv297 sv1934 x3980 rv4145 rv4155) (0))
 else
 Option.map Sum.inr ((law15_sane).bind fun rv4949 =>
 some rv4949))
noncomputable def law15_ComposeExact_j1 (raw5 : (List Record)) (x9 : Int) (rv283 : ((List Record) × Dice)) (rv297 : ((List Record) × Dice)) (x383 : (List Int)) (x384 : Int) (odd385 : (List Record)) : Option Bool :=
 (appM 144 ([] : List Record) rv283.1).bind fun l387 =>
 (appM 144 l387 rv297.1).bind fun l392 =>
 whileM (law15_ComposeExact_l14 raw5 x9 rv283 rv297 odd385 l392) (x383, x384, 0)
noncomputable def law15_ComposeExact_l2 (t1 : (List Int)) (raw5 : (List Record)) (x9 : Int) (sv120 : Int) : Option (Int ⊕ Bool) :=
 (if (decide (sv120 < (raw5.length : Int))) = true then
 (ix raw5 sv120).bind fun x238 =>
 (if (decide (30 < (x238.Samples.length : Int))) = true then
 (law15_sane).bind fun rv264 =>
 some (Sum.inr rv264)
 else
 some (Sum.inl (w64 (sv120 + 1))))
 else
 Option.map Sum.inr ((made_Roll t1).bind fun rv272 =>
 (made_Dice_Records rv272 6).bind fun rv283 =>
 (made_Dice_Records rv283.2 3).bind fun rv297 =>
 (appM 144 ([] : List Record) rv283.1).bind fun l311 =>
 (some (l311.length : Int)).bind fun n316 =>
 (if (decide (0 < n316)) = true then
 (made_Dice_Next rv297.2 n316).bind fun rv4959 =>
 (ix l311 rv4959.1).bind fun x4970 =>
 (made_Dice_OddRecord rv4959.2 x4970).bind fun rv4986 =>
 (ix l311 rv4959.1).bind fun x5001 =>
 (setM l311 rv4959.1 rv4986.1).bind fun l5013 =>
 law15_ComposeExact_j1 raw5 x9 rv283 rv297 rv4986.2.L rv4986.2.At l5013
 else
 law15_ComposeExact_j1 raw5 x9 rv283 rv297 rv297.2.L rv297.2.At l311)))
noncomputable def law15_ComposeExact (t1 : (List Int)) (raw5 : (List Record)) (x9 : Int) : Option Bool :=
 (made_Light t1).bind fun rv11 =>
 (if ((!rv11) || (decide (10 < (raw5.length : Int)))) = true then
 (law15_sane).bind fun rv28 =>
 some rv28
 else
 whileM (law15_ComposeExact_l2 t1 raw5 x9) (0))
end Go.Proofs.YthdimlepjpnncaaGreat.Sh

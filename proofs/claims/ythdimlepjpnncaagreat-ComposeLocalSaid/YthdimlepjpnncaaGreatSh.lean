/- Each Go function as a plain program over lists and numbers (none: a panic, or no end). Printed by a program of ours out of the translation. -/
import Derived.Test.YthdimlepjpnncaaGreatShData
import Derived.Test.YthdimlepjpnncaaGreatLb1
namespace Go.Proofs.YthdimlepjpnncaaGreat.Sh
open Go
set_option linter.unusedVariables false
noncomputable def made_Light (l1 : (List Int)) : Option Bool :=
 some (decide ((l1.length : Int) ≤ 500))
noncomputable def law15_two : Option (List Record) :=
 some ([(⟨(⟨(⟨#[65]⟩ : ByteArray), (⟨#[66]⟩ : ByteArray), ByteArray.empty, (⟨#[72, 72, 90]⟩ : ByteArray)⟩ : SourceID), 0, 0, (⟨4, 1⟩ : Rate), 0, 0, 0, ([1, 2, 3, 4] : List Int)⟩ : Record), (⟨(⟨(⟨#[65]⟩ : ByteArray), (⟨#[66]⟩ : ByteArray), ByteArray.empty, (⟨#[72, 72, 90]⟩ : ByteArray)⟩ : SourceID), 500000, 0, (⟨4, 1⟩ : Rate), 0, 0, 1, ([5, 6, 7, 8] : List Int)⟩ : Record)] : List Record)
noncomputable def slices_IndexFunc_Lapi_Record_api_Record_l2 (s1 : (List Record)) (f5 : Record → Option Bool) (sv90 : Int) : Option (Int ⊕ Int) :=
 (if (decide (sv90 < (s1.length : Int))) = true then
 (ix s1 sv90).bind fun x200 =>
 (f5 x200).bind fun rv216 =>
 (if rv216 = true then
 some (Sum.inr sv90)
 else
 some (Sum.inl (w64 (sv90 + 1))))
 else
 Option.map Sum.inr (some (-1)))
noncomputable def slices_IndexFunc_Lapi_Record_api_Record (s1 : (List Record)) (f5 : Record → Option Bool) : Option Int :=
 whileM (slices_IndexFunc_Lapi_Record_api_Record_l2 s1 f5) (0)
noncomputable def slices_ContainsFunc_Lapi_Record_api_Record (s1 : (List Record)) (f5 : Record → Option Bool) : Option Bool :=
 (slices_IndexFunc_Lapi_Record_api_Record s1 f5).bind fun rv11 =>
 some (decide (0 ≤ rv11))
noncomputable def source_plain (c1 : Int) : Option Bool :=
 some (((decide (65 ≤ c1)) && (decide (c1 ≤ 90))) || ((decide (48 ≤ c1)) && (decide (c1 ≤ 57))))
noncomputable def source_code_l2 (s1 : ByteArray) (low2 : Int) (high3 : Int) (sv42 : Int) : Option (Int ⊕ Bool) :=
 (if (decide (sv42 < (s1.size : Int))) = true then
 (byteAt s1 sv42).bind fun c95 =>
 (source_plain c95).bind fun rv97 =>
 (if (!rv97) = true then
 some (Sum.inr false)
 else
 some (Sum.inl (w64 (sv42 + 1))))
 else
 Option.map Sum.inr (some ((decide (low2 ≤ (s1.size : Int))) && (decide ((s1.size : Int) ≤ high3)))))
noncomputable def source_code (s1 : ByteArray) (low2 : Int) (high3 : Int) : Option Bool :=
 whileM (source_code_l2 s1 low2 high3) (0)
noncomputable def source_Valid (s1 : SourceID) : Option Bool :=
 (source_code s1.Network 1 2).bind fun rv4 =>
 ((if rv4 = true then
 (source_code s1.Station 1 5).bind fun rv21 =>
 some rv21
 else
 some false)).bind fun c18 =>
 ((if c18 = true then
 (source_code s1.Location 0 2).bind fun rv38 =>
 some rv38
 else
 some false)).bind fun c35 =>
 ((if (c35 && ((s1.Location.size : Int) != 1)) = true then
 (source_code s1.Channel 3 3).bind fun rv56 =>
 some rv56
 else
 some false)).bind fun c53 =>
 some c53
noncomputable def record_in (n1 : Int) (low2 : Int) (high3 : Int) : Option Bool :=
 some ((decide (low2 ≤ n1)) && (decide (n1 ≤ high3)))
noncomputable def rate_in (n1 : Int) (low2 : Int) (high3 : Int) : Option Bool :=
 some ((decide (low2 ≤ n1)) && (decide (n1 ≤ high3)))
noncomputable def rate_gcd_l1 (sv3 : (Int × Int)) : Option ((Int × Int) ⊕ Int) :=
 (if (sv3.2 != 0) = true then
 (remM sv3.1 sv3.2).bind fun rem29 =>
 some (Sum.inl (sv3.2, rem29))
 else
 some (Sum.inr sv3.1))
noncomputable def rate_gcd (a1 : Int) (b2 : Int) : Option Int :=
 (whileM (rate_gcd_l1) (a1, b2)).bind fun e21 =>
 some e21
noncomputable def rate_Valid (r1 : Rate) : Option Bool :=
 (rate_in r1.Num 1 4096).bind fun rv4 =>
 ((if rv4 = true then
 (rate_in r1.Den 1 4096).bind fun rv21 =>
 some rv21
 else
 some false)).bind fun c18 =>
 ((if c18 = true then
 (rate_gcd r1.Num r1.Den).bind fun rv38 =>
 some (rv38 == 1)
 else
 some false)).bind fun c35 =>
 some c35
noncomputable def rate_micros (r1 : Rate) : Option Int :=
 (some (w64 (r1.Den * 1000000))).bind fun x4 =>
 some x4
noncomputable def rate_after (r1 : Rate) (k2 : Int) : Option Int :=
 (rate_micros r1).bind fun rv5 =>
 (quoM .i64 (w64 (k2 * rv5)) r1.Num).bind fun quo7 =>
 some quo7
noncomputable def rate_Time (start1 : Int) (r2 : Rate) (k3 : Int) : Option (Int × Int) :=
 (rate_Valid r2).bind fun rv6 =>
 (if (!rv6) = true then
 some (0, 1)
 else
 (rate_in start1 0 9007199254740992).bind fun rv15 =>
 ((if (!rv15) = true then
 some true
 else
 (rate_in k3 0 16777216).bind fun rv32 =>
 some (!rv32))).bind fun c29 =>
 (if c29 = true then
 some (0, 2)
 else
 (rate_after r2 k3).bind fun rv41 =>
 (some (w64 (start1 + rv41))).bind fun x48 =>
 some (x48, 0)))
noncomputable def slices_IndexFunc_Lint_int_l2 (s1 : (List Int)) (f5 : Int → Option Bool) (sv78 : Int) : Option (Int ⊕ Int) :=
 (if (decide (sv78 < (s1.length : Int))) = true then
 (ix s1 sv78).bind fun x172 =>
 (f5 x172).bind fun rv184 =>
 (if rv184 = true then
 some (Sum.inr sv78)
 else
 some (Sum.inl (w64 (sv78 + 1))))
 else
 Option.map Sum.inr (some (-1)))
noncomputable def slices_IndexFunc_Lint_int (s1 : (List Int)) (f5 : Int → Option Bool) : Option Int :=
 whileM (slices_IndexFunc_Lint_int_l2 s1 f5) (0)
noncomputable def slices_ContainsFunc_Lint_int (s1 : (List Int)) (f5 : Int → Option Bool) : Option Bool :=
 (slices_IndexFunc_Lint_int s1 f5).bind fun rv11 =>
 some (decide (0 ≤ rv11))
noncomputable def record_Valid_fn1 (x1 : Int) : Option Bool :=
 (record_in x1 (-1073741823) 1073741823).bind fun rv3 =>
 some (!rv3)
noncomputable def record_Valid (r1 : Record) : Option Bool :=
 (some (r1.Samples.length : Int)).bind fun n7 =>
 (source_Valid r1.Source).bind fun rv9 =>
 ((if (!rv9) = true then
 some true
 else
 (record_in n7 1 65536).bind fun rv26 =>
 some (!rv26))).bind fun c23 =>
 ((if c23 = true then
 some true
 else
 (record_in r1.First 0 (w64 (16777216 - n7))).bind fun rv43 =>
 some (!rv43))).bind fun c40 =>
 ((if c40 = true then
 some true
 else
 (record_in r1.Error 0 1099511627776).bind fun rv60 =>
 some (!rv60))).bind fun c57 =>
 ((if c57 = true then
 some true
 else
 (record_in r1.Run 0 65535).bind fun rv77 =>
 some (!rv77))).bind fun c74 =>
 ((if c74 = true then
 some true
 else
 (record_in r1.Seq 0 1073741824).bind fun rv94 =>
 some (!rv94))).bind fun c91 =>
 (if c91 = true then
 some false
 else
 (rate_Time r1.Start r1.Rate (w64 (r1.First + n7))).bind fun rv103 =>
 ((if ((rv103.2 == 0) && (decide (rv103.1 ≤ 9007199254740992))) = true then
 (slices_ContainsFunc_Lint_int r1.Samples record_Valid_fn1).bind fun rv121 =>
 some (!rv121)
 else
 some false)).bind fun c118 =>
 some c118)
noncomputable def compose_alike_fn1 (r1 : Record) (x5 : (List Record)) : Option Bool :=
 (record_Valid r1).bind fun rv13 =>
 (if (!rv13) = true then
 some true
 else
 (ix x5 0).bind fun x16 =>
 some (!((r1.Source.Network == x16.Source.Network) && ((r1.Source.Station == x16.Source.Station) && ((r1.Source.Location == x16.Source.Location) && ((r1.Source.Channel == x16.Source.Channel) && true)))))).bind fun c31 =>
 some c31
noncomputable def compose_alike (l1 : (List Record)) : Option Bool :=
 (slices_ContainsFunc_Lapi_Record_api_Record l1 (fun y0 => compose_alike_fn1 y0 l1)).bind fun rv7 =>
 some (!rv7)
noncomputable def compose_Valid (l1 : (List Record)) : Option Bool :=
 ((if (decide ((l1.length : Int) ≤ 256)) = true then
 (compose_alike l1).bind fun rv16 =>
 some rv16
 else
 some false)).bind fun c13 =>
 some c13
noncomputable def slices_Clone_Lapi_Record_api_Record (s1 : (List Record)) : Option (List Record) :=
 (appM 144 ([] : List Record) s1).bind fun l11 =>
 some l11
noncomputable def slices_Clone_Lint_int (s1 : (List Int)) : Option (List Int) :=
 (appM 8 ([] : List Int) s1).bind fun l11 =>
 some l11
noncomputable def slices_SortFunc_Lapi_Record_api_Record (x1 : (List Record)) (cmp6 : Record → Record → Option Int) : Option (List Record) :=
 sortM x1 cmp6
noncomputable def cmp_isNaN_string (x1 : ByteArray) : Option Bool :=
 some (!(x1.toList == x1.toList))
noncomputable def cmp_Compare_string (x1 : ByteArray) (y2 : ByteArray) : Option Int :=
 (cmp_isNaN_string x1).bind fun rv4 =>
 (cmp_isNaN_string y2).bind fun rv11 =>
 (if rv4 = true then
 (if rv11 = true then
 some 0
 else
 some (-1))
 else
 (if rv11 = true then
 some 1
 else
 (if (Op.bytesLess x1.toList y2.toList) = true then
 some (-1)
 else
 (if (!((Op.bytesLess x1.toList y2.toList) || (x1.toList == y2.toList))) = true then
 some 1
 else
 some 0))))
noncomputable def cmp_Or_int_l2 (vals1 : (List Int)) (sv55 : Int) : Option (Int ⊕ Int) :=
 (if (decide (sv55 < (vals1.length : Int))) = true then
 (ix vals1 sv55).bind fun x125 =>
 (if (x125 != 0) = true then
 some (Sum.inr x125)
 else
 some (Sum.inl (w64 (sv55 + 1))))
 else
 Option.map Sum.inr (some 0))
noncomputable def cmp_Or_int (vals1 : (List Int)) : Option Int :=
 whileM (cmp_Or_int_l2 vals1) (0)
noncomputable def source_Compare (a1 : SourceID) (b2 : SourceID) : Option Int :=
 (cmp_Compare_string a1.Network b2.Network).bind fun rv6 =>
 (cmp_Compare_string a1.Station b2.Station).bind fun rv8 =>
 (cmp_Compare_string a1.Location b2.Location).bind fun rv10 =>
 (cmp_Compare_string a1.Channel b2.Channel).bind fun rv12 =>
 (cmp_Or_int ([rv6, rv8, rv10, rv12] : List Int)).bind fun rv16 =>
 some rv16
noncomputable def record_time (r1 : Record) (i5 : Int) : Option Int :=
 (rate_Time r1.Start r1.Rate (w64 (r1.First + i5))).bind fun rv8 =>
 some rv8.1
noncomputable def record_begin (r1 : Record) : Option Int :=
 (record_Valid r1).bind fun rv7 =>
 (if (!rv7) = true then
 some 0
 else
 (record_time r1 0).bind fun rv16 =>
 some rv16)
noncomputable def cmp_isNaN_int (x1 : Int) : Option Bool :=
 some (x1 != x1)
noncomputable def cmp_Compare_int (x1 : Int) (y2 : Int) : Option Int :=
 (cmp_isNaN_int x1).bind fun rv4 =>
 (cmp_isNaN_int y2).bind fun rv11 =>
 (if rv4 = true then
 (if rv11 = true then
 some 0
 else
 some (-1))
 else
 (if rv11 = true then
 some 1
 else
 (if (decide (x1 < y2)) = true then
 some (-1)
 else
 (if (decide (y2 < x1)) = true then
 some 1
 else
 some 0))))
noncomputable def slices_Compare_Lint_int_l2 (s1_1 : (List Int)) (s2_5 : (List Int)) (sv122 : Int) : Option (Int ⊕ Int) :=
 (if (decide (sv122 < (s1_1.length : Int))) = true then
 (ix s1_1 sv122).bind fun x276 =>
 (if (decide ((s2_5.length : Int) ≤ sv122)) = true then
 some (Sum.inr 1)
 else
 (ix s2_5 sv122).bind fun x292 =>
 (cmp_Compare_int x276 x292).bind fun rv304 =>
 (if (rv304 != 0) = true then
 some (Sum.inr rv304)
 else
 some (Sum.inl (w64 (sv122 + 1)))))
 else
 Option.map Sum.inr ((if (decide ((s1_1.length : Int) < (s2_5.length : Int))) = true then
 some (-1)
 else
 some 0)))
noncomputable def slices_Compare_Lint_int (s1_1 : (List Int)) (s2_5 : (List Int)) : Option Int :=
 whileM (slices_Compare_Lint_int_l2 s1_1 s2_5) (0)
noncomputable def record_Compare (a1 : Record) (b5 : Record) : Option Int :=
 (source_Compare a1.Source b5.Source).bind fun rv12 =>
 (record_begin a1).bind fun rv14 =>
 (record_begin b5).bind fun rv16 =>
 (cmp_Compare_int rv14 rv16).bind fun rv18 =>
 (cmp_Compare_int a1.Start b5.Start).bind fun rv20 =>
 (cmp_Compare_int a1.First b5.First).bind fun rv22 =>
 (cmp_Compare_int a1.Rate.Num b5.Rate.Num).bind fun rv24 =>
 (cmp_Compare_int a1.Rate.Den b5.Rate.Den).bind fun rv26 =>
 (cmp_Compare_int a1.Error b5.Error).bind fun rv28 =>
 (cmp_Compare_int a1.Run b5.Run).bind fun rv30 =>
 (cmp_Compare_int a1.Seq b5.Seq).bind fun rv32 =>
 (cmp_Compare_int (a1.Samples.length : Int) (b5.Samples.length : Int)).bind fun rv34 =>
 (slices_Compare_Lint_int a1.Samples b5.Samples).bind fun rv36 =>
 (cmp_Or_int ([rv12, rv18, rv20, rv22, rv24, rv26, rv28, rv30, rv32, rv34, rv36] : List Int)).bind fun rv40 =>
 some rv40
noncomputable def slices_CompactFunc_Lapi_Record_api_Record_j1 (sv2183 : ((List Record) × Int × Int)) (sv2527 : (List Record)) (k2528 : Int) : Option (((List Record) × Int × Int) ⊕ ((List Record) × Int)) :=
 (some (w64 (sv2183.2.2 + 1))).bind fun k2_2530 =>
 some (Sum.inl (sv2527, k2528, k2_2530))
noncomputable def slices_CompactFunc_Lapi_Record_api_Record_l11 (eq6 : Record → Record → Option Bool) (sv825 : Int) (l2182 : (List Record)) (sv2183 : ((List Record) × Int × Int)) : Option (((List Record) × Int × Int) ⊕ ((List Record) × Int)) :=
 (if (decide (sv2183.2.2 < (l2182.length : Int))) = true then
 (ixV sv2183.1 sv825 l2182.length sv2183.2.2).bind fun x2468 =>
 (ixV sv2183.1 sv825 l2182.length (w64 (sv2183.2.2 - 1))).bind fun x2480 =>
 (eq6 x2468 x2480).bind fun rv2486 =>
 (if (!rv2486) = true then
 (ixV sv2183.1 sv825 l2182.length sv2183.2.2).bind fun x2539 =>
 (ix sv2183.1 sv2183.2.1).bind fun x2546 =>
 (setM sv2183.1 sv2183.2.1 x2539).bind fun l2558 =>
 (some (w64 (sv2183.2.1 + 1))).bind fun k2563 =>
 slices_CompactFunc_Lapi_Record_api_Record_j1 sv2183 l2558 k2563
 else
 slices_CompactFunc_Lapi_Record_api_Record_j1 sv2183 sv2183.1 sv2183.2.1)
 else
 some (Sum.inr (sv2183.1, sv2183.2.1)))
noncomputable def slices_CompactFunc_Lapi_Record_api_Record_l7 (s1 : (List Record)) (eq6 : Record → Record → Option Bool) (sv825 : Int) : Option (Int ⊕ (List Record)) :=
 (if (decide (sv825 < (s1.length : Int))) = true then
 (ix s1 sv825).bind fun x1909 =>
 (ix s1 (w64 (sv825 - 1))).bind fun x1926 =>
 (eq6 x1909 x1926).bind fun rv1938 =>
 (if rv1938 = true then
 (subM s1 sv825 (s1.length : Int)).bind fun l2182 =>
 (whileM (slices_CompactFunc_Lapi_Record_api_Record_l11 eq6 sv825 l2182) (s1, sv825, 1)).bind fun e2392 =>
 (subM e2392.1 e2392.2 (e2392.1.length : Int)).bind fun l2569 =>
 (some (copyM e2392.1 e2392.2 (e2392.1.length : Int) (List.replicate l2569.length ((⟨(⟨ByteArray.empty, ByteArray.empty, ByteArray.empty, ByteArray.empty⟩ : SourceID), 0, 0, (⟨0, 0⟩ : Rate), 0, 0, 0, ([] : List Int)⟩ : Record) : Record)))).bind fun l2570 =>
 (subM l2570 0 e2392.2).bind fun l2579 =>
 some (Sum.inr l2579)
 else
 (some (w64 (sv825 + 1))).bind fun k2583 =>
 some (Sum.inl k2583))
 else
 Option.map Sum.inr (some s1))
noncomputable def slices_CompactFunc_Lapi_Record_api_Record (s1 : (List Record)) (eq6 : Record → Record → Option Bool) : Option (List Record) :=
 (if (decide ((s1.length : Int) < 2)) = true then
 some s1
 else
 whileM (slices_CompactFunc_Lapi_Record_api_Record_l7 s1 eq6) (1))
noncomputable def slices_Equal_Lint_int_l2 (s1_1 : (List Int)) (s2_5 : (List Int)) (sv103 : Int) : Option (Int ⊕ Bool) :=
 (if (decide (sv103 < (s1_1.length : Int))) = true then
 (ix s1_1 sv103).bind fun x229 =>
 (ix s2_5 sv103).bind fun x242 =>
 (if (x229 != x242) = true then
 some (Sum.inr false)
 else
 some (Sum.inl (w64 (sv103 + 1))))
 else
 Option.map Sum.inr (some true))
noncomputable def slices_Equal_Lint_int (s1_1 : (List Int)) (s2_5 : (List Int)) : Option Bool :=
 (if ((s1_1.length : Int) != (s2_5.length : Int)) = true then
 some false
 else
 whileM (slices_Equal_Lint_int_l2 s1_1 s2_5) (0))
noncomputable def record_Same (a1 : Record) (b5 : Record) : Option Bool :=
 ((if ((((((((a1.Source.Network == b5.Source.Network) && ((a1.Source.Station == b5.Source.Station) && ((a1.Source.Location == b5.Source.Location) && ((a1.Source.Channel == b5.Source.Channel) && true)))) && (a1.Start == b5.Start)) && (a1.First == b5.First)) && ((a1.Rate.Num == b5.Rate.Num) && ((a1.Rate.Den == b5.Rate.Den) && true))) && (a1.Error == b5.Error)) && (a1.Run == b5.Run)) && (a1.Seq == b5.Seq)) = true then
 (slices_Equal_Lint_int a1.Samples b5.Samples).bind fun rv28 =>
 some rv28
 else
 some false)).bind fun c25 =>
 some c25
noncomputable def compose_order_l1 (rv6 : (List Record)) (sv16 : ((List Record) × Int)) : Option (((List Record) × Int) ⊕ (List Record)) :=
 (if (decide (sv16.2 < (rv6.length : Int))) = true then
 (ix sv16.1 sv16.2).bind fun x224 =>
 (slices_Clone_Lint_int x224.Samples).bind fun rv240 =>
 (ix sv16.1 sv16.2).bind fun x252 =>
 (setM sv16.1 sv16.2 (⟨x252.Source, x252.Start, x252.First, x252.Rate, x252.Error, x252.Run, x252.Seq, rv240⟩ : Record)).bind fun l264 =>
 some (Sum.inl (l264, (w64 (sv16.2 + 1))))
 else
 some (Sum.inr sv16.1))
noncomputable def compose_order (l1 : (List Record)) : Option (List Record) :=
 (slices_Clone_Lapi_Record_api_Record l1).bind fun rv6 =>
 (whileM (compose_order_l1 rv6) (rv6, 0)).bind fun e169 =>
 (slices_SortFunc_Lapi_Record_api_Record e169 record_Compare).bind fun rv270 =>
 (slices_CompactFunc_Lapi_Record_api_Record rv270 record_Same).bind fun rv282 =>
 some rv282
noncomputable def record_Better (a1 : Record) (b5 : Record) : Option Bool :=
 (cmp_Compare_int a1.Error b5.Error).bind fun rv12 =>
 (cmp_Compare_int b5.Run a1.Run).bind fun rv14 =>
 (cmp_Compare_int b5.Seq a1.Seq).bind fun rv16 =>
 (record_Compare a1 b5).bind fun rv18 =>
 (cmp_Or_int ([rv12, rv14, rv16, rv18] : List Int)).bind fun rv22 =>
 some (decide (rv22 < 0))
noncomputable def compose_at (r1 : Record) (i5 : Int) : Option Int :=
 (rate_Time r1.Start r1.Rate (w64 (r1.First + i5))).bind fun rv8 =>
 some rv8.1
noncomputable def compose_extent (r1 : Record) : Option Span :=
 (compose_at r1 0).bind fun rv8 =>
 (compose_at r1 (r1.Samples.length : Int)).bind fun rv10 =>
 some (⟨rv8, rv10⟩ : Span)
noncomputable def slices_Clone_Lapi_Span_api_Span (s1 : (List Span)) : Option (List Span) :=
 (appM 16 ([] : List Span) s1).bind fun l11 =>
 some l11
noncomputable def slices_IndexFunc_Lapi_Span_api_Span_l2 (s1 : (List Span)) (f5 : Span → Option Bool) (sv78 : Int) : Option (Int ⊕ Int) :=
 (if (decide (sv78 < (s1.length : Int))) = true then
 (ix s1 sv78).bind fun x172 =>
 (f5 x172).bind fun rv184 =>
 (if rv184 = true then
 some (Sum.inr sv78)
 else
 some (Sum.inl (w64 (sv78 + 1))))
 else
 Option.map Sum.inr (some (-1)))
noncomputable def slices_IndexFunc_Lapi_Span_api_Span (s1 : (List Span)) (f5 : Span → Option Bool) : Option Int :=
 whileM (slices_IndexFunc_Lapi_Span_api_Span_l2 s1 f5) (0)
noncomputable def slices_DeleteFunc_Lapi_Span_api_Span_j1 (sv22 : ((List Span) × Int × Int)) (sv247 : (List Span)) (i248 : Int) : Option (((List Span) × Int × Int) ⊕ ((List Span) × Int)) :=
 (some (w64 (sv22.2.2 + 1))).bind fun j250 =>
 some (Sum.inl (sv247, i248, j250))
noncomputable def slices_DeleteFunc_Lapi_Span_api_Span_l1 (del6 : Span → Option Bool) (sv22 : ((List Span) × Int × Int)) : Option (((List Span) × Int × Int) ⊕ ((List Span) × Int)) :=
 (if (decide (sv22.2.2 < (sv22.1.length : Int))) = true then
 (ix sv22.1 sv22.2.2).bind fun x210 =>
 (del6 x210).bind fun rv223 =>
 (if (!rv223) = true then
 (ix sv22.1 sv22.2.1).bind fun x254 =>
 (setM sv22.1 sv22.2.1 x210).bind fun l262 =>
 (some (w64 (sv22.2.1 + 1))).bind fun i267 =>
 slices_DeleteFunc_Lapi_Span_api_Span_j1 sv22 l262 i267
 else
 slices_DeleteFunc_Lapi_Span_api_Span_j1 sv22 sv22.1 sv22.2.1)
 else
 some (Sum.inr (sv22.1, sv22.2.1)))
noncomputable def slices_DeleteFunc_Lapi_Span_api_Span (s1 : (List Span)) (del6 : Span → Option Bool) : Option (List Span) :=
 (slices_IndexFunc_Lapi_Span_api_Span s1 del6).bind fun rv12 =>
 (if (rv12 == (-1)) = true then
 some s1
 else
 (some (w64 (rv12 + 1))).bind fun j21 =>
 (whileM (slices_DeleteFunc_Lapi_Span_api_Span_l1 del6) (s1, rv12, j21)).bind fun e162 =>
 (subM e162.1 e162.2 (e162.1.length : Int)).bind fun l273 =>
 (some (copyM e162.1 e162.2 (e162.1.length : Int) (List.replicate l273.length ((⟨0, 0⟩ : Span) : Span)))).bind fun l274 =>
 (subM l274 0 e162.2).bind fun l283 =>
 some l283)
noncomputable def span_some (s1 : Span) : Option Bool :=
 some (decide (s1.From < s1.To))
noncomputable def span_Normal_fn1 (s1 : Span) : Option Bool :=
 (span_some s1).bind fun rv4 =>
 some (!rv4)
noncomputable def slices_SortFunc_Lapi_Span_api_Span (x1 : (List Span)) (cmp6 : Span → Span → Option Int) : Option (List Span) :=
 sortP x1 cmp6
noncomputable def span_Normal_fn2 (a1 : Span) (b2 : Span) : Option Int :=
 (cmp_Compare_int a1.From b2.From).bind fun rv6 =>
 some rv6
noncomputable def span_Normal_j1 (sv39 : ((List Span) × Int)) (out425 : (List Span)) : Option (((List Span) × Int) ⊕ (List Span)) :=
 some (Sum.inl (out425, (w64 (sv39.2 + 1))))
noncomputable def span_Normal_l1 (rv28 : (List Span)) (sv39 : ((List Span) × Int)) : Option (((List Span) × Int) ⊕ (List Span)) :=
 (if (decide (sv39.2 < (rv28.length : Int))) = true then
 (ix rv28 sv39.2).bind fun x341 =>
 (some (sv39.1.length : Int)).bind fun n354 =>
 (if (decide (0 < n354)) = true then
 (ix sv39.1 (w64 (n354 - 1))).bind fun x357 =>
 some (decide (x341.From ≤ x357.To))
 else
 some false).bind fun c368 =>
 (if c368 = true then
 (ix sv39.1 (w64 (n354 - 1))).bind fun x429 =>
 (ix sv39.1 (w64 (n354 - 1))).bind fun x442 =>
 (setM sv39.1 (w64 (n354 - 1)) (⟨x442.From, (max x429.To x341.To)⟩ : Span)).bind fun l450 =>
 span_Normal_j1 sv39 l450
 else
 (appM 16 sv39.1 ([x341] : List Span)).bind fun l457 =>
 span_Normal_j1 sv39 l457)
 else
 some (Sum.inr sv39.1))
noncomputable def span_Normal (l1 : (List Span)) : Option (List Span) :=
 (slices_Clone_Lapi_Span_api_Span l1).bind fun rv6 =>
 (slices_DeleteFunc_Lapi_Span_api_Span rv6 span_Normal_fn1).bind fun rv17 =>
 (slices_SortFunc_Lapi_Span_api_Span rv17 span_Normal_fn2).bind fun rv28 =>
 (whileM (span_Normal_l1 rv28) (([] : List Span), 0)).bind fun e261 =>
 some e261
noncomputable def compose_times_l1 (r1 : Record) (sv6 : ((List Int) × Int)) : Option (((List Int) × Int) ⊕ (List Int)) :=
 (if (decide (sv6.2 < (w64 ((r1.Samples.length : Int) + 1)))) = true then
 (compose_at r1 sv6.2).bind fun rv85 =>
 (appM 8 sv6.1 ([rv85] : List Int)).bind fun l94 =>
 some (Sum.inl (l94, (w64 (sv6.2 + 1))))
 else
 some (Sum.inr sv6.1))
noncomputable def compose_times (r1 : Record) : Option (List Int) :=
 (whileM (compose_times_l1 r1) (([] : List Int), 0)).bind fun e63 =>
 some e63
noncomputable def compose_kept_l6 (better5 : (List Span)) (rv11 : (List Int)) (sv25 : ((List Bool) × Int × Int)) (sv631 : Int) : Option (Int ⊕ Int) :=
 (if (decide (sv631 < (better5.length : Int))) = true then
 (ix better5 sv631).bind fun x734 =>
 (ix rv11 sv25.2.2).bind fun x747 =>
 some (decide (x734.To ≤ x747))
 else
 some false).bind fun c758 =>
 (if c758 = true then
 (some (w64 (sv631 + 1))).bind fun k794 =>
 some (Sum.inl k794)
 else
 some (Sum.inr sv631))
noncomputable def compose_kept_l3 (better5 : (List Span)) (rv11 : (List Int)) (l22 : (List Bool)) (sv25 : ((List Bool) × Int × Int)) : Option (((List Bool) × Int × Int) ⊕ (List Bool)) :=
 (if (decide (sv25.2.2 < (l22.length : Int))) = true then
 (whileM (compose_kept_l6 better5 rv11 sv25) (sv25.2.1)).bind fun e730 =>
 (if (e730 == (better5.length : Int)) = true then
 some true
 else
 (ix better5 e730).bind fun x798 =>
 (ix rv11 (w64 (sv25.2.2 + 1))).bind fun x811 =>
 some (decide (x811 ≤ x798.From))).bind fun c822 =>
 (ix sv25.1 sv25.2.2).bind fun x825 =>
 (setM sv25.1 sv25.2.2 c822).bind fun l837 =>
 some (Sum.inl (l837, e730, (w64 (sv25.2.2 + 1))))
 else
 some (Sum.inr sv25.1))
noncomputable def compose_kept (r1 : Record) (better5 : (List Span)) : Option (List Bool) :=
 (compose_times r1).bind fun rv11 =>
 (makeM 1 (false : Bool) (r1.Samples.length : Int)).bind fun l22 =>
 (whileM (compose_kept_l3 better5 rv11 l22) (l22, 0, 0)).bind fun e478 =>
 some e478
noncomputable def record_sub (r1 : Record) (from5 : Int) (to6 : Int) : Option Record :=
 (subM r1.Samples from5 to6).bind fun l14 =>
 (slices_Clone_Lint_int l14).bind fun rv16 =>
 some (⟨r1.Source, r1.Start, (w64 (r1.First + from5)), r1.Rate, r1.Error, r1.Run, r1.Seq, rv16⟩ : Record)
noncomputable def record_Sub (r1 : Record) (from5 : Int) (to6 : Int) : Option (Record × Int) :=
 (record_Valid r1).bind fun rv10 =>
 (if (!rv10) = true then
 some ((⟨(⟨ByteArray.empty, ByteArray.empty, ByteArray.empty, ByteArray.empty⟩ : SourceID), 0, 0, (⟨0, 0⟩ : Rate), 0, 0, 0, ([] : List Int)⟩ : Record), 1)
 else
 (if (((decide (from5 < 0)) || (decide (to6 ≤ from5))) || (decide ((r1.Samples.length : Int) < to6))) = true then
 some ((⟨(⟨ByteArray.empty, ByteArray.empty, ByteArray.empty, ByteArray.empty⟩ : SourceID), 0, 0, (⟨0, 0⟩ : Rate), 0, 0, 0, ([] : List Int)⟩ : Record), 2)
 else
 (record_sub r1 from5 to6).bind fun rv23 =>
 some (rv23, 0)))
noncomputable def compose_runs_l6 (keep5 : (List Bool)) (sv562 : Int) : Option (Int ⊕ Int) :=
 ((if (decide (sv562 < (keep5.length : Int))) = true then
 (ix keep5 sv562).bind fun x684 =>
 some x684
 else
 some false)).bind fun c680 =>
 (if c680 = true then
 (some (w64 (sv562 + 1))).bind fun to700 =>
 some (Sum.inl to700)
 else
 some (Sum.inr sv562))
noncomputable def compose_runs_j2 (out727 : (List Record)) (fromv728 : Int) : Option (((List Record) × Int) ⊕ (List Record)) :=
 (some (w64 (fromv728 + 1))).bind fun fromv730 =>
 some (Sum.inl (out727, fromv730))
noncomputable def compose_runs_l3 (r1 : Record) (keep5 : (List Bool)) (sv10 : ((List Record) × Int)) : Option (((List Record) × Int) ⊕ (List Record)) :=
 (if (decide (sv10.2 < (keep5.length : Int))) = true then
 (whileM (compose_runs_l6 keep5) (sv10.2)).bind fun e664 =>
 (if (decide (sv10.2 < e664)) = true then
 (record_Sub r1 sv10.2 e664).bind fun rv733 =>
 (appM 144 sv10.1 ([rv733.1] : List Record)).bind fun l748 =>
 compose_runs_j2 l748 e664
 else
 compose_runs_j2 sv10.1 sv10.2)
 else
 some (Sum.inr sv10.1))
noncomputable def compose_runs (r1 : Record) (keep5 : (List Bool)) : Option (List Record) :=
 (whileM (compose_runs_l3 r1 keep5) (([] : List Record), 0)).bind fun e424 =>
 some e424
noncomputable def compose_compose_j1 (sv796 : ((List Span) × Int)) (better1022 : (List Span)) : Option (((List Span) × Int) ⊕ (List Span)) :=
 some (Sum.inl (better1022, (w64 (sv796.2 + 1))))
noncomputable def compose_compose_l6 (rv6 : (List Record)) (x780 : Record) (sv796 : ((List Span) × Int)) : Option (((List Span) × Int) ⊕ (List Span)) :=
 (if (decide (sv796.2 < (rv6.length : Int))) = true then
 (ix rv6 sv796.2).bind fun x984 =>
 (record_Better x984 x780).bind fun rv997 =>
 (if rv997 = true then
 (compose_extent x984).bind fun rv1025 =>
 (appM 16 sv796.1 ([rv1025] : List Span)).bind fun l1034 =>
 compose_compose_j1 sv796 l1034
 else
 compose_compose_j1 sv796 sv796.1)
 else
 some (Sum.inr sv796.1))
noncomputable def compose_compose_l3 (rv6 : (List Record)) (sv16 : ((List Record) × Int)) : Option (((List Record) × Int) ⊕ (List Record)) :=
 (if (decide (sv16.2 < (rv6.length : Int))) = true then
 (ix rv6 sv16.2).bind fun x780 =>
 (whileM (compose_compose_l6 rv6 x780) (([] : List Span), 0)).bind fun e934 =>
 (span_Normal e934).bind fun rv1040 =>
 (compose_kept x780 rv1040).bind fun rv1046 =>
 (compose_runs x780 rv1046).bind fun rv1052 =>
 (appM 144 sv16.1 rv1052).bind fun l1058 =>
 some (Sum.inl (l1058, (w64 (sv16.2 + 1))))
 else
 some (Sum.inr sv16.1))
noncomputable def compose_compose (l1 : (List Record)) : Option (List Record) :=
 (compose_order l1).bind fun rv6 =>
 (whileM (compose_compose_l3 rv6) (([] : List Record), 0)).bind fun e586 =>
 (slices_SortFunc_Lapi_Record_api_Record e586 record_Compare).bind fun rv1084 =>
 some rv1084
noncomputable def compose_Compose (l1 : (List Record)) : Option ((List Record) × Int) :=
 (compose_Valid l1).bind fun rv6 =>
 (if (!rv6) = true then
 some (([] : List Record), 1)
 else
 (compose_compose l1).bind fun rv15 =>
 some (rv15, 0))
noncomputable def compose_Value_l11 (t5 : Int) (sv454 : Int) (x1028 : Record) (sv1166 : Int) : Option (Int ⊕ (Int ⊕ (Int × Bool))) :=
 (if (decide (sv1166 < (x1028.Samples.length : Int))) = true then
 (ix x1028.Samples sv1166).bind fun x1332 =>
 (compose_at x1028 sv1166).bind fun rv1344 =>
 ((if (decide (rv1344 ≤ t5)) = true then
 (compose_at x1028 (w64 (sv1166 + 1))).bind fun rv1361 =>
 some (decide (t5 < rv1361))
 else
 some false)).bind fun c1358 =>
 (if c1358 = true then
 some (Sum.inr (Sum.inr (x1332, true)))
 else
 some (Sum.inl (w64 (sv1166 + 1))))
 else
 Option.map Sum.inr (some (Sum.inl (w64 (sv454 + 1)))))
noncomputable def compose_Value_l7 (t5 : Int) (rv16 : (List Record)) (sv454 : Int) : Option (Int ⊕ (Int × Bool)) :=
 (if (decide (sv454 < (rv16.length : Int))) = true then
 (ix rv16 sv454).bind fun x1028 =>
 whileM (compose_Value_l11 t5 sv454 x1028) (0)
 else
 Option.map Sum.inr (some (0, false)))
noncomputable def compose_Value (l1 : (List Record)) (t5 : Int) : Option (Int × Bool) :=
 (compose_Valid l1).bind fun rv7 =>
 (if (!rv7) = true then
 some (0, false)
 else
 (compose_compose l1).bind fun rv16 =>
 whileM (compose_Value_l7 t5 rv16) (0))
noncomputable def law15_sane : Option Bool :=
 (law15_two).bind fun rv2 =>
 (compose_Compose rv2).bind fun rv13 =>
 (law15_two).bind fun rv25 =>
 (compose_Value rv25 600000).bind fun rv36 =>
 ((if ((rv13.2 == 0) && ((rv13.1.length : Int) == 2)) = true then
 (ix rv13.1 0).bind fun x65 =>
 some ((x65.Samples.length : Int) == 2)
 else
 some false)).bind fun c61 =>
 ((if c61 = true then
 (ix rv13.1 1).bind fun x102 =>
 some ((x102.Samples.length : Int) == 4)
 else
 some false)).bind fun c98 =>
 some ((c98 && rv36.2) && (rv36.1 == 5))
noncomputable def made_Roll (l1 : (List Int)) : Option Dice :=
 some (⟨l1, 0⟩ : Dice)
noncomputable def made_Dice_Next_j1 (d1 : Dice) (x30 : Int) : Option (Int × Dice) :=
 some (x30, (⟨d1.L, (w64 (d1.At + 1))⟩ : Dice))
noncomputable def made_Dice_Next (d1 : Dice) (n6 : Int) : Option (Int × Dice) :=
 (if ((decide ((d1.L.length : Int) ≤ d1.At)) || (decide (n6 < 1))) = true then
 some (0, d1)
 else
 (ix d1.L d1.At).bind fun x12 =>
 (remM x12 n6).bind fun rem24 =>
 (if (decide (rem24 < 0)) = true then
 (some (w64 (rem24 + n6))).bind fun x33 =>
 made_Dice_Next_j1 d1 x33
 else
 made_Dice_Next_j1 d1 rem24))
noncomputable def made_Dice_Source (d1 : Dice) : Option (SourceID × Dice) :=
 (made_Dice_Next d1 3).bind fun rv10 =>
 (ix ([(⟨#[71, 82]⟩ : ByteArray), (⟨#[88]⟩ : ByteArray), (⟨#[55, 65]⟩ : ByteArray)] : List ByteArray) rv10.1).bind fun x16 =>
 (made_Dice_Next rv10.2 4).bind fun rv26 =>
 (ix ([(⟨#[70, 85, 82]⟩ : ByteArray), (⟨#[65]⟩ : ByteArray), (⟨#[65, 66, 67, 68, 69]⟩ : ByteArray), (⟨#[70, 85]⟩ : ByteArray)] : List ByteArray) rv26.1).bind fun x32 =>
 (made_Dice_Next rv26.2 3).bind fun rv42 =>
 (ix ([(⟨#[]⟩ : ByteArray), (⟨#[48, 48]⟩ : ByteArray), (⟨#[49, 48]⟩ : ByteArray)] : List ByteArray) rv42.1).bind fun x48 =>
 (made_Dice_Next rv42.2 3).bind fun rv58 =>
 (ix ([(⟨#[72, 72, 90]⟩ : ByteArray), (⟨#[72, 72, 78]⟩ : ByteArray), (⟨#[66, 72, 90]⟩ : ByteArray)] : List ByteArray) rv58.1).bind fun x64 =>
 some ((⟨x16, x32, x48, x64⟩ : SourceID), rv58.2)
noncomputable def made_Dice_Pick (d1 : Dice) (l6 : (List Int)) : Option (Int × Dice) :=
 (made_Dice_Next d1 (l6.length : Int)).bind fun rv11 =>
 (ix l6 rv11.1).bind fun x22 =>
 some (x22, rv11.2)
noncomputable def ref01_In (n1 : Int) (lo2 : Int) (hi3 : Int) : Option Bool :=
 some ((decide (lo2 ≤ n1)) && (decide (n1 ≤ hi3)))
noncomputable def ref02_gcd_l1 (sv3 : (Int × Int)) : Option ((Int × Int) ⊕ Int) :=
 (if (sv3.2 != 0) = true then
 (remM sv3.1 sv3.2).bind fun rem29 =>
 some (Sum.inl (sv3.2, rem29))
 else
 some (Sum.inr sv3.1))
noncomputable def ref02_gcd (a1 : Int) (b2 : Int) : Option Int :=
 (whileM (ref02_gcd_l1) (a1, b2)).bind fun e21 =>
 some e21
noncomputable def ref02_New (num1 : Int) (den2 : Int) : Option (Rate × Int) :=
 (ref01_In num1 1 4096).bind fun rv5 =>
 ((if (!rv5) = true then
 some true
 else
 (ref01_In den2 1 4096).bind fun rv22 =>
 some (!rv22))).bind fun c19 =>
 (if c19 = true then
 some ((⟨0, 0⟩ : Rate), 2)
 else
 (ref02_gcd num1 den2).bind fun rv31 =>
 (quoM .i64 num1 rv31).bind fun quo38 =>
 (quoM .i64 den2 rv31).bind fun quo40 =>
 some ((⟨quo38, quo40⟩ : Rate), 0))
noncomputable def made_Dice_Record_l1 (sv168 : ((List Int) × Int × (List Int) × Int)) : Option (((List Int) × Int × (List Int) × Int) ⊕ ((List Int) × Int × (List Int))) :=
 (if (decide (0 < sv168.2.2.2)) = true then
 (made_Dice_Next (⟨sv168.1, sv168.2.1⟩ : Dice) 4).bind fun rv255 =>
 (appM 8 sv168.2.2.1 ([rv255.1] : List Int)).bind fun l262 =>
 (some (w64 (sv168.2.2.2 - 1))).bind fun i293 =>
 some (Sum.inl (rv255.2.L, rv255.2.At, l262, i293))
 else
 some (Sum.inr (sv168.1, sv168.2.1, sv168.2.2.1)))
noncomputable def made_Dice_Record (d1 : Dice) (s6 : SourceID) (n7 : Int) : Option (Record × Dice) :=
 (made_Dice_Pick d1 ([1, 2, 2, 3] : List Int)).bind fun rv13 =>
 (made_Dice_Pick rv13.2 ([1, 1, 1, 3] : List Int)).bind fun rv26 =>
 (ref02_New rv13.1 rv26.1).bind fun rv37 =>
 (made_Dice_Next rv26.2 40).bind fun rv45 =>
 (made_Dice_Pick rv45.2 ([0, 0, 3] : List Int)).bind fun rv52 =>
 (made_Dice_Pick rv52.2 ([0, 0, 10, 500] : List Int)).bind fun rv59 =>
 (made_Dice_Next rv59.2 2).bind fun rv64 =>
 (made_Dice_Next rv64.2 6).bind fun rv69 =>
 (made_Dice_Next rv69.2 n7).bind fun rv157 =>
 (some (w64 (1 + rv157.1))).bind fun i167 =>
 (whileM (made_Dice_Record_l1) (rv157.2.L, rv157.2.At, ([] : List Int), i167)).bind fun e232 =>
 some ((⟨s6, (w64 (1000000000000 + (w64 (250000 * rv45.1)))), rv52.1, rv37.1, rv59.1, rv64.1, rv69.1, e232.2.2⟩ : Record), (⟨e232.1, e232.2.1⟩ : Dice))
noncomputable def made_Dice_Records_j1 (sv28 : ((List Int) × Int × (List Record) × Int)) (x576 : (List Int)) (x577 : Int) (x578 : ByteArray) (x579 : ByteArray) (x580 : ByteArray) (x581 : ByteArray) (x582 : Int) (x583 : Int) (x584 : Int) (x585 : Int) (x586 : Int) (x587 : Int) (x588 : Int) (x589 : (List Int)) : Option (((List Int) × Int × (List Record) × Int) ⊕ ((List Int) × Int × (List Record))) :=
 (appM 144 sv28.2.2.1 ([(⟨(⟨x578, x579, x580, x581⟩ : SourceID), x582, x583, (⟨x584, x585⟩ : Rate), x586, x587, x588, x589⟩ : Record)] : List Record)).bind fun l593 =>
 (some (w64 (sv28.2.2.2 - 1))).bind fun i598 =>
 some (Sum.inl (x576, x577, l593, i598))
noncomputable def made_Dice_Records_l1 (rv8 : (SourceID × Dice)) (sv28 : ((List Int) × Int × (List Record) × Int)) : Option (((List Int) × Int × (List Record) × Int) ⊕ ((List Int) × Int × (List Record))) :=
 (if (decide (0 < sv28.2.2.2)) = true then
 (made_Dice_Record (⟨sv28.1, sv28.2.1⟩ : Dice) rv8.1 6).bind fun rv491 =>
 ((if (decide (0 < (sv28.2.2.1.length : Int))) = true then
 (made_Dice_Next rv491.2 5).bind fun rv521 =>
 some (rv521.2.L, rv521.2.At, (rv521.1 == 0))
 else
 some (rv491.2.L, rv491.2.At, false))).bind fun c516 =>
 (if c516.2.2 = true then
 (made_Dice_Next (⟨c516.1, c516.2.1⟩ : Dice) (sv28.2.2.1.length : Int)).bind fun rv601 =>
 (ix sv28.2.2.1 rv601.1).bind fun x612 =>
 (made_Dice_Pick rv601.2 ([x612.Seq, 9] : List Int)).bind fun rv630 =>
 made_Dice_Records_j1 sv28 rv630.2.L rv630.2.At x612.Source.Network x612.Source.Station x612.Source.Location x612.Source.Channel x612.Start x612.First x612.Rate.Num x612.Rate.Den x612.Error x612.Run rv630.1 x612.Samples
 else
 made_Dice_Records_j1 sv28 c516.1 c516.2.1 rv491.1.Source.Network rv491.1.Source.Station rv491.1.Source.Location rv491.1.Source.Channel rv491.1.Start rv491.1.First rv491.1.Rate.Num rv491.1.Rate.Den rv491.1.Error rv491.1.Run rv491.1.Seq rv491.1.Samples)
 else
 some (Sum.inr (sv28.1, sv28.2.1, sv28.2.2.1)))
noncomputable def made_Dice_Records (d1 : Dice) (n6 : Int) : Option ((List Record) × Dice) :=
 (made_Dice_Source d1).bind fun rv8 =>
 (made_Dice_Next rv8.2 (w64 (n6 + 1))).bind fun rv19 =>
 (whileM (made_Dice_Records_l1 rv8) (rv19.2.L, rv19.2.At, ([] : List Record), rv19.1)).bind fun e374 =>
 some (e374.2.2, (⟨e374.1, e374.2.1⟩ : Dice))
noncomputable def ref03_code_l2 (s1 : ByteArray) (lo2 : Int) (hi3 : Int) (sv111 : Int) : Option (Int ⊕ Bool) :=
 (if (decide (sv111 < (s1.size : Int))) = true then
 (byteAt s1 sv111).bind fun c254 =>
 ((if (decide (65 ≤ c254)) = true then
 (byteAt s1 sv111).bind fun c261 =>
 some (decide (c261 ≤ 90))
 else
 some false)).bind fun c258 =>
 ((if c258 = true then
 some true
 else
 (byteAt s1 sv111).bind fun c275 =>
 ((if (decide (48 ≤ c275)) = true then
 (byteAt s1 sv111).bind fun c282 =>
 some (decide (c282 ≤ 57))
 else
 some false)).bind fun c279 =>
 some c279)).bind fun c272 =>
 (if (!c272) = true then
 some (Sum.inr false)
 else
 (some (w64 (sv111 + 1))).bind fun i287 =>
 some (Sum.inl i287))
 else
 Option.map Sum.inr (some ((decide (lo2 ≤ (s1.size : Int))) && (decide ((s1.size : Int) ≤ hi3)))))
noncomputable def ref03_code (s1 : ByteArray) (lo2 : Int) (hi3 : Int) : Option Bool :=
 whileM (ref03_code_l2 s1 lo2 hi3) (0)
noncomputable def ref03_Valid (s1 : SourceID) : Option Bool :=
 (ref03_code s1.Network 1 2).bind fun rv4 =>
 ((if rv4 = true then
 (ref03_code s1.Station 1 5).bind fun rv21 =>
 some rv21
 else
 some false)).bind fun c18 =>
 ((if c18 = true then
 ((if (s1.Location.toList == (⟨#[]⟩ : ByteArray).toList) = true then
 some true
 else
 (ref03_code s1.Location 2 2).bind fun rv58 =>
 some rv58)).bind fun c55 =>
 some c55
 else
 some false)).bind fun c45 =>
 ((if c45 = true then
 (ref03_code s1.Channel 3 3).bind fun rv75 =>
 some rv75
 else
 some false)).bind fun c72 =>
 some c72
noncomputable def ref02_Valid (r1 : Rate) : Option Bool :=
 (ref01_In r1.Num 1 4096).bind fun rv4 =>
 ((if rv4 = true then
 (ref01_In r1.Den 1 4096).bind fun rv21 =>
 some rv21
 else
 some false)).bind fun c18 =>
 ((if c18 = true then
 (ref02_gcd r1.Num r1.Den).bind fun rv38 =>
 some (rv38 == 1)
 else
 some false)).bind fun c35 =>
 some c35
noncomputable def ref05_Sample (n1 : Int) : Option Bool :=
 (ref01_In n1 (-1073741823) 1073741823).bind fun rv3 =>
 some rv3
noncomputable def ref05_InRange_l2 (l1 : (List Int)) (sv82 : Int) : Option (Int ⊕ Bool) :=
 (if (decide (sv82 < (l1.length : Int))) = true then
 (ix l1 sv82).bind fun x186 =>
 (ref05_Sample x186).bind fun rv198 =>
 (if (!rv198) = true then
 some (Sum.inr false)
 else
 (some (w64 (sv82 + 1))).bind fun i208 =>
 some (Sum.inl i208))
 else
 Option.map Sum.inr (some true))
noncomputable def ref05_InRange (l1 : (List Int)) : Option Bool :=
 whileM (ref05_InRange_l2 l1) (0)
noncomputable def ref02_Time (start1 : Int) (r2 : Rate) (k3 : Int) : Option (Int × Int) :=
 (ref02_Valid r2).bind fun rv6 =>
 (if (!rv6) = true then
 some (0, 1)
 else
 (ref01_In start1 0 9007199254740992).bind fun rv15 =>
 ((if (!rv15) = true then
 some true
 else
 (ref01_In k3 0 16777216).bind fun rv32 =>
 some (!rv32))).bind fun c29 =>
 (if c29 = true then
 some (0, 2)
 else
 (quoM .i64 (w64 ((w64 (k3 * r2.Den)) * 1000000)) r2.Num).bind fun quo41 =>
 (some (w64 (start1 + quo41))).bind fun x43 =>
 some (x43, 0)))
noncomputable def ref14_Time (r1 : Record) (i5 : Int) : Option Int :=
 (ref02_Time r1.Start r1.Rate (w64 (r1.First + i5))).bind fun rv8 =>
 some rv8.1
noncomputable def ref14_Valid (r1 : Record) : Option Bool :=
 (ref03_Valid r1.Source).bind fun rv7 =>
 ((if (!rv7) = true then
 some true
 else
 (ref02_Valid r1.Rate).bind fun rv24 =>
 some (!rv24))).bind fun c21 =>
 ((if c21 = true then
 some true
 else
 (ref01_In r1.Start 0 9007199254740992).bind fun rv41 =>
 some (!rv41))).bind fun c38 =>
 ((if c38 = true then
 some true
 else
 (ref01_In r1.First 0 16777216).bind fun rv58 =>
 some (!rv58))).bind fun c55 =>
 ((if c55 = true then
 some true
 else
 (ref01_In (r1.Samples.length : Int) 1 65536).bind fun rv75 =>
 some (!rv75))).bind fun c72 =>
 ((if (c72 || (decide (16777216 < (w64 (r1.First + (r1.Samples.length : Int)))))) = true then
 some true
 else
 (ref05_InRange r1.Samples).bind fun rv93 =>
 some (!rv93))).bind fun c90 =>
 (if c90 = true then
 some false
 else
 (ref01_In r1.Error 0 1099511627776).bind fun rv102 =>
 ((if rv102 = true then
 (ref01_In r1.Run 0 65535).bind fun rv119 =>
 some rv119
 else
 some false)).bind fun c116 =>
 ((if c116 = true then
 (ref01_In r1.Seq 0 1073741824).bind fun rv136 =>
 some rv136
 else
 some false)).bind fun c133 =>
 ((if c133 = true then
 (ref14_Time r1 (r1.Samples.length : Int)).bind fun rv153 =>
 some (decide (rv153 ≤ 9007199254740992))
 else
 some false)).bind fun c150 =>
 some c150)
noncomputable def ref14_Span (r1 : Record) : Option (Span × Int) :=
 (ref14_Valid r1).bind fun rv8 =>
 (if (!rv8) = true then
 some ((⟨0, 0⟩ : Span), 1)
 else
 (ref14_Time r1 0).bind fun rv17 =>
 (ref14_Time r1 (r1.Samples.length : Int)).bind fun rv19 =>
 some ((⟨rv17, rv19⟩ : Span), 0))
noncomputable def ref08_Normal_j1 (sv5 : ((List Span) × Int)) (sorted716 : (List Span)) : Option (((List Span) × Int) ⊕ (List Span)) :=
 (some (w64 (sv5.2 + 1))).bind fun i718 =>
 some (Sum.inl (sorted716, i718))
noncomputable def ref08_Normal_l6 (l1 : (List Span)) (sv5 : ((List Span) × Int)) (sv745 : Int) : Option (Int ⊕ Int) :=
 (if (decide (0 < sv745)) = true then
 (ix sv5.1 (w64 (sv745 - 1))).bind fun x833 =>
 (ix l1 sv5.2).bind fun x846 =>
 some (decide (x846.From < x833.From))
 else
 some false).bind fun c852 =>
 (if c852 = true then
 (some (w64 (sv745 - 1))).bind fun k883 =>
 some (Sum.inl k883)
 else
 some (Sum.inr sv745))
noncomputable def ref08_Normal_l3 (l1 : (List Span)) (sv5 : ((List Span) × Int)) : Option (((List Span) × Int) ⊕ (List Span)) :=
 (if (decide (sv5.2 < (l1.length : Int))) = true then
 (ix l1 sv5.2).bind fun x721 =>
 (ix l1 sv5.2).bind fun x734 =>
 (if (decide (x734.To ≤ x721.From)) = true then
 ref08_Normal_j1 sv5 sv5.1
 else
 (some (sv5.1.length : Int)).bind fun k744 =>
 (whileM (ref08_Normal_l6 l1 sv5) (k744)).bind fun e829 =>
 (ix l1 sv5.2).bind fun x887 =>
 (appM 16 sv5.1 ([x887] : List Span)).bind fun l896 =>
 (subM l896 (w64 (e829 + 1)) (l896.length : Int)).bind fun l904 =>
 (subM l896 e829 (l896.length : Int)).bind fun l909 =>
 (some (copyM l896 (w64 (e829 + 1)) (l896.length : Int) l909)).bind fun l910 =>
 (ix l1 sv5.2).bind fun x920 =>
 (ix l910 e829).bind fun x928 =>
 (setM l910 e829 x920).bind fun l940 =>
 ref08_Normal_j1 sv5 l940)
 else
 some (Sum.inr sv5.1))
noncomputable def ref08_Normal_j4 (sv945 : ((List Span) × Int)) (out1475 : (List Span)) : Option (((List Span) × Int) ⊕ (List Span)) :=
 (some (w64 (sv945.2 + 1))).bind fun i1477 =>
 some (Sum.inl (out1475, i1477))
noncomputable def ref08_Normal_l7 (e539 : (List Span)) (sv945 : ((List Span) × Int)) : Option (((List Span) × Int) ⊕ (List Span)) :=
 (if (decide (sv945.2 < (e539.length : Int))) = true then
 (some (sv945.1.length : Int)).bind fun n1352 =>
 (if (decide (0 < n1352)) = true then
 (ix e539 sv945.2).bind fun x1355 =>
 (ix sv945.1 (w64 (n1352 - 1))).bind fun x1368 =>
 some (decide (x1355.From ≤ x1368.To))
 else
 some false).bind fun c1379 =>
 (if c1379 = true then
 (ix sv945.1 (w64 (n1352 - 1))).bind fun x1481 =>
 (ix e539 sv945.2).bind fun x1494 =>
 (ix sv945.1 (w64 (n1352 - 1))).bind fun x1507 =>
 (setM sv945.1 (w64 (n1352 - 1)) (⟨x1507.From, (max x1481.To x1494.To)⟩ : Span)).bind fun l1515 =>
 ref08_Normal_j4 sv945 l1515
 else
 (ix e539 sv945.2).bind fun x1521 =>
 (appM 16 sv945.1 ([x1521] : List Span)).bind fun l1535 =>
 ref08_Normal_j4 sv945 l1535)
 else
 some (Sum.inr sv945.1))
noncomputable def ref08_Normal (l1 : (List Span)) : Option (List Span) :=
 (whileM (ref08_Normal_l3 l1) (([] : List Span), 0)).bind fun e539 =>
 (whileM (ref08_Normal_l7 e539) (([] : List Span), 0)).bind fun e1248 =>
 some e1248
noncomputable def slices_Grow_Lapi_Record_api_Record_n_j1 (sv23 : (List Record)) : Option (List Record) :=
 some sv23
noncomputable def slices_Grow_Lapi_Record_api_Record_n (n1 : Int) : Option (List Record) :=
 (if (decide (n1 < 0)) = true then
 none
 else
 (some (w64 (n1 - (w64 (((0 : Nat) : Int) - (([] : List Record).length : Int)))))).bind fun n5 =>
 (if (decide (0 < n5)) = true then
 (subM ([] : List Record) 0 ((0 : Nat) : Int)).bind fun l28 =>
 (makeM 144 ((⟨(⟨ByteArray.empty, ByteArray.empty, ByteArray.empty, ByteArray.empty⟩ : SourceID), 0, 0, (⟨0, 0⟩ : Rate), 0, 0, 0, ([] : List Int)⟩ : Record) : Record) n5).bind fun l30 =>
 (subM l30 0 (([] : List Record).length : Int)).bind fun l36 =>
 slices_Grow_Lapi_Record_api_Record_n_j1 l36
 else
 slices_Grow_Lapi_Record_api_Record_n_j1 ([] : List Record)))
noncomputable def slices_Concat_Lapi_Record_api_Record_l1 (slices1 : (List (List Record))) (sv5 : (Int × Int)) : Option ((Int × Int) ⊕ Int) :=
 (if (decide (sv5.2 < (slices1.length : Int))) = true then
 (ix slices1 sv5.2).bind fun x100 =>
 (some (w64 (sv5.1 + (x100.length : Int)))).bind fun size116 =>
 (if (decide (size116 < 0)) = true then
 none
 else
 some (Sum.inl (size116, (w64 (sv5.2 + 1)))))
 else
 some (Sum.inr sv5.1))
noncomputable def slices_Concat_Lapi_Record_api_Record_l2 (slices1 : (List (List Record))) (sv131 : ((List Record) × Int)) : Option (((List Record) × Int) ⊕ (List Record)) :=
 (if (decide (sv131.2 < (slices1.length : Int))) = true then
 (ix slices1 sv131.2).bind fun x243 =>
 (appM 144 sv131.1 x243).bind fun l259 =>
 some (Sum.inl (l259, (w64 (sv131.2 + 1))))
 else
 some (Sum.inr sv131.1))
noncomputable def slices_Concat_Lapi_Record_api_Record (slices1 : (List (List Record))) : Option (List Record) :=
 (whileM (slices_Concat_Lapi_Record_api_Record_l1 slices1) (0, 0)).bind fun e74 =>
 (slices_Grow_Lapi_Record_api_Record_n e74).bind fun rv121 =>
 (whileM (slices_Concat_Lapi_Record_api_Record_l2 slices1) (rv121, 0)).bind fun e212 =>
 some e212
noncomputable def compose_samples_l6 (x745 : Record) (rv762 : (List Int)) (sv772 : ((Mo Compose_sample) × Int)) : Option (((Mo Compose_sample) × Int) ⊕ (Mo Compose_sample)) :=
 (if (decide (sv772.2 < (x745.Samples.length : Int))) = true then
 (ix x745.Samples sv772.2).bind fun x975 =>
 (ix rv762 sv772.2).bind fun x988 =>
 (ix rv762 sv772.2).bind fun x1001 =>
 (ix rv762 (w64 (sv772.2 + 1))).bind fun x1010 =>
 (Mo.put sv772.1 x988 (⟨x1001, x1010, x975⟩ : Compose_sample)).bind fun m1018 =>
 some (Sum.inl (m1018, (w64 (sv772.2 + 1))))
 else
 some (Sum.inr sv772.1))
noncomputable def compose_samples_l3 (l1 : (List Record)) (sv6 : ((Mo Compose_sample) × Int)) : Option (((Mo Compose_sample) × Int) ⊕ (Mo Compose_sample)) :=
 (if (decide (sv6.2 < (l1.length : Int))) = true then
 (ix l1 sv6.2).bind fun x745 =>
 (compose_times x745).bind fun rv762 =>
 (whileM (compose_samples_l6 x745 rv762) (sv6.1, 0)).bind fun e922 =>
 some (Sum.inl (e922, (w64 (sv6.2 + 1))))
 else
 some (Sum.inr sv6.1))
noncomputable def compose_samples (l1 : (List Record)) : Option (Mo Compose_sample) :=
 (whileM (compose_samples_l3 l1) ((⟨0, []⟩ : Mo Compose_sample), 0)).bind fun e558 =>
 some e558
noncomputable def span_Minus_j1 (sv699 : ((List Span) × Int × Int)) (out867 : (List Span)) (atv868 : Int) : Option (((List Span) × Int × Int) ⊕ ((List Span) × Int)) :=
 some (Sum.inl (out867, atv868, (w64 (sv699.2.2 + 1))))
noncomputable def span_Minus_j2 (sv699 : ((List Span) × Int × Int)) (x871 : Span) (out898 : (List Span)) : Option (((List Span) × Int × Int) ⊕ ((List Span) × Int)) :=
 (some (max sv699.2.1 x871.To)).bind fun atv900 =>
 span_Minus_j1 sv699 out898 atv900
noncomputable def span_Minus_l6 (rv10 : (List Span)) (x687 : Span) (sv699 : ((List Span) × Int × Int)) : Option (((List Span) × Int × Int) ⊕ ((List Span) × Int)) :=
 (if (decide (sv699.2.2 < (rv10.length : Int))) = true then
 (ix rv10 sv699.2.2).bind fun x871 =>
 (if ((decide (x871.To ≤ sv699.2.1)) || (decide (x687.To ≤ x871.From))) = true then
 span_Minus_j1 sv699 sv699.1 sv699.2.1
 else
 (if (decide (sv699.2.1 < x871.From)) = true then
 (appM 16 sv699.1 ([(⟨sv699.2.1, x871.From⟩ : Span)] : List Span)).bind fun l905 =>
 span_Minus_j2 sv699 x871 l905
 else
 span_Minus_j2 sv699 x871 sv699.1))
 else
 some (Sum.inr (sv699.1, sv699.2.1)))
noncomputable def span_Minus_j4 (sv31 : ((List Span) × Int)) (out922 : (List Span)) : Option (((List Span) × Int) ⊕ (List Span)) :=
 some (Sum.inl (out922, (w64 (sv31.2 + 1))))
noncomputable def span_Minus_l3 (rv10 : (List Span)) (rv21 : (List Span)) (sv31 : ((List Span) × Int)) : Option (((List Span) × Int) ⊕ (List Span)) :=
 (if (decide (sv31.2 < (rv21.length : Int))) = true then
 (ix rv21 sv31.2).bind fun x687 =>
 (whileM (span_Minus_l6 rv10 x687) (sv31.1, x687.From, 0)).bind fun e825 =>
 (if (decide (e825.2 < x687.To)) = true then
 (appM 16 e825.1 ([(⟨e825.2, x687.To⟩ : Span)] : List Span)).bind fun l927 =>
 span_Minus_j4 sv31 l927
 else
 span_Minus_j4 sv31 e825.1)
 else
 some (Sum.inr sv31.1))
noncomputable def span_Minus (a1 : (List Span)) (b5 : (List Span)) : Option (List Span) :=
 (span_Normal b5).bind fun rv10 =>
 (span_Normal a1).bind fun rv21 =>
 (whileM (span_Minus_l3 rv10 rv21) (([] : List Span), 0)).bind fun e520 =>
 some e520
noncomputable def compose_Latest_l1 (rv62 : (List Record)) (sv73 : ((List Span) × Int)) : Option (((List Span) × Int) ⊕ (List Span)) :=
 (if (decide (sv73.2 < (rv62.length : Int))) = true then
 (ix rv62 sv73.2).bind fun x225 =>
 (compose_extent x225).bind fun rv242 =>
 (appM 16 sv73.1 ([rv242] : List Span)).bind fun l251 =>
 some (Sum.inl (l251, (w64 (sv73.2 + 1))))
 else
 some (Sum.inr sv73.1))
noncomputable def compose_Latest_j2 (same444 : (List Span)) : Option (List Span) :=
 some same444
noncomputable def compose_Latest_l3 (rv257 : (Mo Compose_sample)) (e345 : (Int × Compose_sample)) (sv344 : (List Span)) : Option (List Span) :=
 (Mo.look rv257 e345.1 (⟨0, 0, 0⟩ : Compose_sample)).bind fun g429 =>
 (if (g429.2 && (g429.1.value_ == e345.2.value_)) = true then
 (appM 16 sv344 ([(⟨e345.1, (min e345.2.to_ g429.1.to_)⟩ : Span)] : List Span)).bind fun l449 =>
 compose_Latest_j2 l449
 else
 compose_Latest_j2 sv344)
noncomputable def compose_Latest (a1 : (List Record)) (b5 : (List Record)) : Option ((List Span) × Int) :=
 (compose_Valid a1).bind fun rv10 =>
 ((if (!rv10) = true then
 some true
 else
 (compose_Valid b5).bind fun rv27 =>
 some (!rv27))).bind fun c24 =>
 (if c24 = true then
 some (([] : List Span), 1)
 else
 (compose_compose a1).bind fun rv36 =>
 (compose_compose b5).bind fun rv47 =>
 (slices_Concat_Lapi_Record_api_Record ([rv36, rv47] : List (List Record))).bind fun rv62 =>
 (whileM (compose_Latest_l1 rv62) (([] : List Span), 0)).bind fun e184 =>
 (compose_samples rv47).bind fun rv257 =>
 (compose_samples rv36).bind fun rv265 =>
 rv265.each fun o => (foldO (compose_Latest_l3 rv257) o ([] : List Span)).bind fun sv344 =>
 (span_Minus e184 sv344).bind fun rv397 =>
 some (rv397, 0))
noncomputable def ref08_Minus_j1 (sv1336 : ((List Span) × Int × Int)) (out1690 : (List Span)) (fromv1691 : Int) : Option (((List Span) × Int × Int) ⊕ ((List Span) × Int)) :=
 (some (w64 (sv1336.2.2 + 1))).bind fun k1693 =>
 some (Sum.inl (out1690, fromv1691, k1693))
noncomputable def ref08_Minus_j2 (rv21 : (List Span)) (sv1336 : ((List Span) × Int × Int)) (out1780 : (List Span)) : Option (((List Span) × Int × Int) ⊕ ((List Span) × Int)) :=
 (ix rv21 sv1336.2.2).bind fun x1783 =>
 (some (max sv1336.2.1 x1783.To)).bind fun fromv1791 =>
 ref08_Minus_j1 sv1336 out1780 fromv1791
noncomputable def ref08_Minus_l6 (rv10 : (List Span)) (rv21 : (List Span)) (sv31 : ((List Span) × Int)) (sv1336 : ((List Span) × Int × Int)) : Option (((List Span) × Int × Int) ⊕ ((List Span) × Int)) :=
 (if (decide (sv1336.2.2 < (rv21.length : Int))) = true then
 (ix rv21 sv1336.2.2).bind fun x1696 =>
 (if (decide (x1696.To ≤ sv1336.2.1)) = true then
 some true
 else
 (ix rv21 sv1336.2.2).bind fun x1709 =>
 (ix rv10 sv31.2).bind fun x1718 =>
 some (decide (x1718.To ≤ x1709.From))).bind fun c1725 =>
 (if c1725 = true then
 ref08_Minus_j1 sv1336 sv1336.1 sv1336.2.1
 else
 (ix rv21 sv1336.2.2).bind fun x1752 =>
 (if (decide (sv1336.2.1 < x1752.From)) = true then
 (ix rv21 sv1336.2.2).bind fun x1795 =>
 (appM 16 sv1336.1 ([(⟨sv1336.2.1, x1795.From⟩ : Span)] : List Span)).bind fun l1805 =>
 ref08_Minus_j2 rv21 sv1336 l1805
 else
 ref08_Minus_j2 rv21 sv1336 sv1336.1))
 else
 some (Sum.inr (sv1336.1, sv1336.2.1)))
noncomputable def ref08_Minus_j4 (sv31 : ((List Span) × Int)) (out1840 : (List Span)) : Option (((List Span) × Int) ⊕ (List Span)) :=
 (some (w64 (sv31.2 + 1))).bind fun i1842 =>
 some (Sum.inl (out1840, i1842))
noncomputable def ref08_Minus_l3 (rv10 : (List Span)) (rv21 : (List Span)) (sv31 : ((List Span) × Int)) : Option (((List Span) × Int) ⊕ (List Span)) :=
 (if (decide (sv31.2 < (rv10.length : Int))) = true then
 (ix rv10 sv31.2).bind fun x1325 =>
 (whileM (ref08_Minus_l6 rv10 rv21 sv31) (sv31.1, x1325.From, 0)).bind fun e1603 =>
 (ix rv10 sv31.2).bind fun x1812 =>
 (if (decide (e1603.2 < x1812.To)) = true then
 (ix rv10 sv31.2).bind fun x1846 =>
 (appM 16 e1603.1 ([(⟨e1603.2, x1846.To⟩ : Span)] : List Span)).bind fun l1856 =>
 ref08_Minus_j4 sv31 l1856
 else
 ref08_Minus_j4 sv31 e1603.1)
 else
 some (Sum.inr sv31.1))
noncomputable def ref08_Minus (a1 : (List Span)) (b5 : (List Span)) : Option (List Span) :=
 (ref08_Normal a1).bind fun rv10 =>
 (ref08_Normal b5).bind fun rv21 =>
 (whileM (ref08_Minus_l3 rv10 rv21) (([] : List Span), 0)).bind fun e1000 =>
 some e1000
noncomputable def ref14_At (r1 : Record) (i5 : Int) : Option (Int × Int) :=
 (ref14_Valid r1).bind fun rv8 =>
 (if (!rv8) = true then
 some (0, 1)
 else
 (ref01_In i5 0 (r1.Samples.length : Int)).bind fun rv17 =>
 (if (!rv17) = true then
 some (0, 2)
 else
 (ref14_Time r1 i5).bind fun rv26 =>
 some (rv26, 0)))
noncomputable def law15_ComposeLocal_j1 (sv673 : ((List Span) × Int)) (near834 : (List Span)) : Option (((List Span) × Int) ⊕ (List Span)) :=
 some (Sum.inl (near834, (w64 (sv673.2 + 1))))
noncomputable def law15_ComposeLocal_l6 (rv133 : (Span × Int)) (x657 : Record) (sv673 : ((List Span) × Int)) : Option (((List Span) × Int) ⊕ (List Span)) :=
 (if (decide (sv673.2 < (x657.Samples.length : Int))) = true then
 (ref14_At x657 sv673.2).bind fun rv808 =>
 (ref14_At x657 (w64 (sv673.2 + 1))).bind fun rv815 =>
 (if ((decide (rv808.1 < rv133.1.To)) && (decide (rv133.1.From < rv815.1))) = true then
 (appM 16 sv673.1 ([(⟨rv808.1, rv815.1⟩ : Span)] : List Span)).bind fun l839 =>
 law15_ComposeLocal_j1 sv673 l839
 else
 law15_ComposeLocal_j1 sv673 sv673.1)
 else
 some (Sum.inr sv673.1))
noncomputable def law15_ComposeLocal_l3 (l109 : (List Record)) (rv133 : (Span × Int)) (sv145 : ((List Span) × Int)) : Option (((List Span) × Int) ⊕ (List Span)) :=
 (if (decide (sv145.2 < (l109.length : Int))) = true then
 (ix l109 sv145.2).bind fun x657 =>
 (whileM (law15_ComposeLocal_l6 rv133 x657) (sv145.1, 0)).bind fun e772 =>
 some (Sum.inl (e772, (w64 (sv145.2 + 1))))
 else
 some (Sum.inr sv145.1))
noncomputable def law15_ComposeLocal (t1 : (List Int)) : Option Bool :=
 (made_Light t1).bind fun rv6 =>
 (if (!rv6) = true then
 (law15_sane).bind fun rv22 =>
 some rv22
 else
 (made_Roll t1).bind fun rv29 =>
 (made_Dice_Records rv29 6).bind fun rv40 =>
 (if ((rv40.1.length : Int) == 0) = true then
 (law15_sane).bind fun rv63 =>
 some rv63
 else
 (ix rv40.1 0).bind fun x71 =>
 (made_Dice_Record rv40.2 x71.Source 6).bind fun rv87 =>
 (appM 144 ([] : List Record) rv40.1).bind fun l102 =>
 (appM 144 l102 ([rv87.1] : List Record)).bind fun l109 =>
 (compose_Latest rv40.1 l109).bind fun rv120 =>
 (ref14_Span rv87.1).bind fun rv133 =>
 (if ((rv120.2 != 0) || (rv133.2 != 0)) = true then
 some false
 else
 (whileM (law15_ComposeLocal_l3 l109 rv133) (([rv133.1] : List Span), 0)).bind fun e526 =>
 (ref08_Minus rv120.1 e526).bind fun rv847 =>
 ((if ((rv847.length : Int) == 0) = true then
 (law15_sane).bind fun rv870 =>
 some rv870
 else
 some false)).bind fun c867 =>
 some c867)))
end Go.Proofs.YthdimlepjpnncaaGreat.Sh

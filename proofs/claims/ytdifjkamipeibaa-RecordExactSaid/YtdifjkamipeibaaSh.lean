/- Each Go function as a plain program over lists and numbers (none: a panic, or no end). Printed by a program of ours out of the translation. -/
import Derived.Test.YtdifjkamipeibaaShData
namespace Go.Proofs.Ytdifjkamipeibaa.Sh
open Go
set_option linter.unusedVariables false

-- seismonet/seismonetmade.Light
noncomputable def made_Light (l1 : (List Int)) : Option Bool :=
  some (decide ((l1.length : Int) ≤ 500))

-- seismonet/source.plain
noncomputable def source_plain (c1 : Int) : Option Bool :=
  some (((decide (65 ≤ c1)) && (decide (c1 ≤ 90))) || ((decide (48 ≤ c1)) && (decide (c1 ≤ 57))))

-- seismonet/source.code
noncomputable def source_code_l2 (s1 : ByteArray) (low2 : Int) (high3 : Int) (sv42 : Int) : Option (Int ⊕ Bool) :=
  (if (decide (sv42 < (s1.size : Int))) = true then
    (byteAt s1 sv42).bind fun c95 =>
    (source_plain c95).bind fun rv97 =>
    (if (!rv97) = true then
      some (Sum.inr false)
    else
      some (Sum.inl (w64 (sv42 + 1))))
  else
    Option.map Sum.inr (some ((decide (low2 ≤ (s1.size : Int))) && (decide ((s1.size : Int) ≤ high3)))))
noncomputable def source_code (s1 : ByteArray) (low2 : Int) (high3 : Int) : Option Bool :=
  whileM (source_code_l2 s1 low2 high3) (0)

-- seismonet/source.Valid
noncomputable def source_Valid (s1 : SourceID) : Option Bool :=
  (source_code s1.Network 1 2).bind fun rv4 =>
  ((if rv4 = true then
    (source_code s1.Station 1 5).bind fun rv21 =>
    some rv21
  else
    some false)).bind fun c18 =>
  ((if c18 = true then
    (source_code s1.Location 0 2).bind fun rv38 =>
    some rv38
  else
    some false)).bind fun c35 =>
  ((if (c35 && ((s1.Location.size : Int) != 1)) = true then
    (source_code s1.Channel 3 3).bind fun rv56 =>
    some rv56
  else
    some false)).bind fun c53 =>
  some c53

-- seismonet/record.in
noncomputable def record_in (n1 : Int) (low2 : Int) (high3 : Int) : Option Bool :=
  some ((decide (low2 ≤ n1)) && (decide (n1 ≤ high3)))

-- seismonet/rate.in
noncomputable def rate_in (n1 : Int) (low2 : Int) (high3 : Int) : Option Bool :=
  some ((decide (low2 ≤ n1)) && (decide (n1 ≤ high3)))

-- seismonet/rate.gcd
noncomputable def rate_gcd_l1 (sv3 : (Int × Int)) : Option ((Int × Int) ⊕ Int) :=
  (if (sv3.2 != 0) = true then
    (remM sv3.1 sv3.2).bind fun rem29 =>
    some (Sum.inl (sv3.2, rem29))
  else
    some (Sum.inr sv3.1))
noncomputable def rate_gcd (a1 : Int) (b2 : Int) : Option Int :=
  (whileM (rate_gcd_l1) (a1, b2)).bind fun e21 =>
  some e21

-- seismonet/rate.Valid
noncomputable def rate_Valid (r1 : Rate) : Option Bool :=
  (rate_in r1.Num 1 4096).bind fun rv4 =>
  ((if rv4 = true then
    (rate_in r1.Den 1 4096).bind fun rv21 =>
    some rv21
  else
    some false)).bind fun c18 =>
  ((if c18 = true then
    (rate_gcd r1.Num r1.Den).bind fun rv38 =>
    some (rv38 == 1)
  else
    some false)).bind fun c35 =>
  some c35

-- seismonet/rate.micros
noncomputable def rate_micros (r1 : Rate) : Option Int :=
  (some (w64 (r1.Den * 1000000))).bind fun x4 =>
  some x4

-- seismonet/rate.after
noncomputable def rate_after (r1 : Rate) (k2 : Int) : Option Int :=
  (rate_micros r1).bind fun rv5 =>
  (quoM .i64 (w64 (k2 * rv5)) r1.Num).bind fun quo7 =>
  some quo7

-- seismonet/rate.Time
noncomputable def rate_Time (start1 : Int) (r2 : Rate) (k3 : Int) : Option (Int × Int) :=
  (rate_Valid r2).bind fun rv6 =>
  (if (!rv6) = true then
    some (0, 1)
  else
    (rate_in start1 0 9007199254740992).bind fun rv15 =>
    ((if (!rv15) = true then
      some true
    else
      (rate_in k3 0 16777216).bind fun rv32 =>
      some (!rv32))).bind fun c29 =>
    (if c29 = true then
      some (0, 2)
    else
      (rate_after r2 k3).bind fun rv41 =>
      (some (w64 (start1 + rv41))).bind fun x48 =>
      some (x48, 0)))

-- slices.IndexFunc[[]int,int]
noncomputable def slices_IndexFunc_Lint_int_l2 (s1 : (List Int)) (f5 : Int → Option Bool) (sv78 : Int) : Option (Int ⊕ Int) :=
  (if (decide (sv78 < (s1.length : Int))) = true then
    (ix s1 sv78).bind fun x172 =>
    (f5 x172).bind fun rv184 =>
    (if rv184 = true then
      some (Sum.inr sv78)
    else
      some (Sum.inl (w64 (sv78 + 1))))
  else
    Option.map Sum.inr (some (-1)))
noncomputable def slices_IndexFunc_Lint_int (s1 : (List Int)) (f5 : Int → Option Bool) : Option Int :=
  whileM (slices_IndexFunc_Lint_int_l2 s1 f5) (0)

-- slices.ContainsFunc[[]int,int]
noncomputable def slices_ContainsFunc_Lint_int (s1 : (List Int)) (f5 : Int → Option Bool) : Option Bool :=
  (slices_IndexFunc_Lint_int s1 f5).bind fun rv11 =>
  some (decide (0 ≤ rv11))

-- seismonet/record.Valid$1
noncomputable def record_Valid_fn1 (x1 : Int) : Option Bool :=
  (record_in x1 (-1073741823) 1073741823).bind fun rv3 =>
  some (!rv3)

-- seismonet/record.Valid
noncomputable def record_Valid (r1 : Record) : Option Bool :=
  (some (r1.Samples.length : Int)).bind fun n7 =>
  (source_Valid r1.Source).bind fun rv9 =>
  ((if (!rv9) = true then
    some true
  else
    (record_in n7 1 65536).bind fun rv26 =>
    some (!rv26))).bind fun c23 =>
  ((if c23 = true then
    some true
  else
    (record_in r1.First 0 (w64 (16777216 - n7))).bind fun rv43 =>
    some (!rv43))).bind fun c40 =>
  ((if c40 = true then
    some true
  else
    (record_in r1.Error 0 1099511627776).bind fun rv60 =>
    some (!rv60))).bind fun c57 =>
  ((if c57 = true then
    some true
  else
    (record_in r1.Run 0 65535).bind fun rv77 =>
    some (!rv77))).bind fun c74 =>
  ((if c74 = true then
    some true
  else
    (record_in r1.Seq 0 1073741824).bind fun rv94 =>
    some (!rv94))).bind fun c91 =>
  (if c91 = true then
    some false
  else
    (rate_Time r1.Start r1.Rate (w64 (r1.First + n7))).bind fun rv103 =>
    ((if ((rv103.2 == 0) && (decide (rv103.1 ≤ 9007199254740992))) = true then
      (slices_ContainsFunc_Lint_int r1.Samples record_Valid_fn1).bind fun rv121 =>
      some (!rv121)
    else
      some false)).bind fun c118 =>
    some c118)

-- seismonet/record.time
noncomputable def record_time (r1 : Record) (i5 : Int) : Option Int :=
  (rate_Time r1.Start r1.Rate (w64 (r1.First + i5))).bind fun rv8 =>
  some rv8.1

-- seismonet/record.Span
noncomputable def record_Span (r1 : Record) : Option (Span × Int) :=
  (record_Valid r1).bind fun rv8 =>
  (if (!rv8) = true then
    some ((⟨0, 0⟩ : Span), 1)
  else
    (record_time r1 0).bind fun rv17 =>
    (record_time r1 (r1.Samples.length : Int)).bind fun rv19 =>
    some ((⟨rv17, rv19⟩ : Span), 0))

-- slices.Clone[[]int,int]
noncomputable def slices_Clone_Lint_int (s1 : (List Int)) : Option (List Int) :=
  (appM 8 ([] : List Int) s1).bind fun l11 =>
  some l11

-- seismonet/record.sub
noncomputable def record_sub (r1 : Record) (from5 : Int) (to6 : Int) : Option Record :=
  (subM r1.Samples from5 to6).bind fun l14 =>
  (slices_Clone_Lint_int l14).bind fun rv16 =>
  some (⟨r1.Source, r1.Start, (w64 (r1.First + from5)), r1.Rate, r1.Error, r1.Run, r1.Seq, rv16⟩ : Record)

-- seismonet/record.Sub
noncomputable def record_Sub (r1 : Record) (from5 : Int) (to6 : Int) : Option (Record × Int) :=
  (record_Valid r1).bind fun rv10 =>
  (if (!rv10) = true then
    some ((⟨(⟨ByteArray.empty, ByteArray.empty, ByteArray.empty, ByteArray.empty⟩ : SourceID), 0, 0, (⟨0, 0⟩ : Rate), 0, 0, 0, ([] : List Int)⟩ : Record), 1)
  else
    (if (((decide (from5 < 0)) || (decide (to6 ≤ from5))) || (decide ((r1.Samples.length : Int) < to6))) = true then
      some ((⟨(⟨ByteArray.empty, ByteArray.empty, ByteArray.empty, ByteArray.empty⟩ : SourceID), 0, 0, (⟨0, 0⟩ : Rate), 0, 0, 0, ([] : List Int)⟩ : Record), 2)
    else
      (record_sub r1 from5 to6).bind fun rv23 =>
      some (rv23, 0)))

-- seismonet/record.At
noncomputable def record_At (r1 : Record) (i5 : Int) : Option (Int × Int) :=
  (record_Valid r1).bind fun rv8 =>
  (if (!rv8) = true then
    some (0, 1)
  else
    (record_in i5 0 (r1.Samples.length : Int)).bind fun rv17 =>
    (if (!rv17) = true then
      some (0, 2)
    else
      (record_time r1 i5).bind fun rv26 =>
      some (rv26, 0)))

-- seismonet/seismonetlaw14.sane
noncomputable def law14_sane : Option Bool :=
  (record_Span (⟨(⟨(⟨#[65]⟩ : ByteArray), (⟨#[66]⟩ : ByteArray), ByteArray.empty, (⟨#[72, 72, 90]⟩ : ByteArray)⟩ : SourceID), 0, 0, (⟨3, 1⟩ : Rate), 0, 0, 0, ([1, 2, 3, 4] : List Int)⟩ : Record)).bind fun rv5 =>
  (record_Sub (⟨(⟨(⟨#[65]⟩ : ByteArray), (⟨#[66]⟩ : ByteArray), ByteArray.empty, (⟨#[72, 72, 90]⟩ : ByteArray)⟩ : SourceID), 0, 0, (⟨3, 1⟩ : Rate), 0, 0, 0, ([1, 2, 3, 4] : List Int)⟩ : Record) 2 4).bind fun rv13 =>
  (record_At (⟨(⟨(⟨#[65]⟩ : ByteArray), (⟨#[66]⟩ : ByteArray), ByteArray.empty, (⟨#[72, 72, 90]⟩ : ByteArray)⟩ : SourceID), 0, 0, (⟨3, 1⟩ : Rate), 0, 0, 0, ([1, 2, 3, 4] : List Int)⟩ : Record) 2).bind fun rv26 =>
  (record_At rv13.1 0).bind fun rv33 =>
  ((if (((((((rv5.2 == 0) && (rv13.2 == 0)) && (rv26.2 == 0)) && (rv33.2 == 0)) && ((rv5.1.From == 0) && ((rv5.1.To == 1333333) && true))) && (rv26.1 == 666666)) && (rv33.1 == 666666)) = true then
    (record_Valid (⟨(⟨(⟨#[65]⟩ : ByteArray), (⟨#[66]⟩ : ByteArray), ByteArray.empty, (⟨#[72, 72, 90]⟩ : ByteArray)⟩ : SourceID), 0, 0, (⟨3, 1⟩ : Rate), 0, 0, 0, ([1, 2, 3, 4] : List Int)⟩ : Record)).bind fun rv56 =>
    some rv56
  else
    some false)).bind fun c53 =>
  some c53

-- seismonet/seismonetmade.Roll
noncomputable def made_Roll (l1 : (List Int)) : Option Dice :=
  some (⟨l1, 0⟩ : Dice)

-- (*seismonet/seismonetmade.Dice).Next
noncomputable def made_Dice_Next_j1 (d1 : Dice) (x33 : Int) : Option (Int × Dice) :=
  some (x33, (⟨d1.L, (w64 (d1.At + 1))⟩ : Dice))
noncomputable def made_Dice_Next (d1 : Dice) (n6 : Int) : Option (Int × Dice) :=
  (if ((decide ((d1.L.length : Int) ≤ d1.At)) || (decide (n6 < 1))) = true then
    some (0, d1)
  else
    (ix d1.L d1.At).bind fun x15 =>
    (remM x15 n6).bind fun rem27 =>
    (if (decide (rem27 < 0)) = true then
      (some (w64 (rem27 + n6))).bind fun x36 =>
      made_Dice_Next_j1 d1 x36
    else
      made_Dice_Next_j1 d1 rem27))

-- (*seismonet/seismonetmade.Dice).Source
noncomputable def made_Dice_Source (d1 : Dice) : Option (SourceID × Dice) :=
  (made_Dice_Next d1 3).bind fun rv10 =>
  (ix ([(⟨#[71, 82]⟩ : ByteArray), (⟨#[88]⟩ : ByteArray), (⟨#[55, 65]⟩ : ByteArray)] : List ByteArray) rv10.1).bind fun x16 =>
  (made_Dice_Next rv10.2 4).bind fun rv26 =>
  (ix ([(⟨#[70, 85, 82]⟩ : ByteArray), (⟨#[65]⟩ : ByteArray), (⟨#[65, 66, 67, 68, 69]⟩ : ByteArray), (⟨#[70, 85]⟩ : ByteArray)] : List ByteArray) rv26.1).bind fun x32 =>
  (made_Dice_Next rv26.2 3).bind fun rv42 =>
  (ix ([(⟨#[]⟩ : ByteArray), (⟨#[48, 48]⟩ : ByteArray), (⟨#[49, 48]⟩ : ByteArray)] : List ByteArray) rv42.1).bind fun x48 =>
  (made_Dice_Next rv42.2 3).bind fun rv58 =>
  (ix ([(⟨#[72, 72, 90]⟩ : ByteArray), (⟨#[72, 72, 78]⟩ : ByteArray), (⟨#[66, 72, 90]⟩ : ByteArray)] : List ByteArray) rv58.1).bind fun x64 =>
  some ((⟨x16, x32, x48, x64⟩ : SourceID), rv58.2)

-- (*seismonet/seismonetmade.Dice).Pick
noncomputable def made_Dice_Pick (d1 : Dice) (l6 : (List Int)) : Option (Int × Dice) :=
  (made_Dice_Next d1 (l6.length : Int)).bind fun rv11 =>
  (ix l6 rv11.1).bind fun x22 =>
  some (x22, rv11.2)

-- seismonet/seismonetref01.In
noncomputable def ref01_In (n1 : Int) (lo2 : Int) (hi3 : Int) : Option Bool :=
  some ((decide (lo2 ≤ n1)) && (decide (n1 ≤ hi3)))

-- seismonet/seismonetref02.gcd
noncomputable def ref02_gcd_l1 (sv3 : (Int × Int)) : Option ((Int × Int) ⊕ Int) :=
  (if (sv3.2 != 0) = true then
    (remM sv3.1 sv3.2).bind fun rem29 =>
    some (Sum.inl (sv3.2, rem29))
  else
    some (Sum.inr sv3.1))
noncomputable def ref02_gcd (a1 : Int) (b2 : Int) : Option Int :=
  (whileM (ref02_gcd_l1) (a1, b2)).bind fun e21 =>
  some e21

-- seismonet/seismonetref02.New
noncomputable def ref02_New (num1 : Int) (den2 : Int) : Option (Rate × Int) :=
  (ref01_In num1 1 4096).bind fun rv5 =>
  ((if (!rv5) = true then
    some true
  else
    (ref01_In den2 1 4096).bind fun rv22 =>
    some (!rv22))).bind fun c19 =>
  (if c19 = true then
    some ((⟨0, 0⟩ : Rate), 2)
  else
    (ref02_gcd num1 den2).bind fun rv31 =>
    (quoM .i64 num1 rv31).bind fun quo38 =>
    (quoM .i64 den2 rv31).bind fun quo40 =>
    some ((⟨quo38, quo40⟩ : Rate), 0))

-- (*seismonet/seismonetmade.Dice).Record
noncomputable def made_Dice_Record_l1 (sv168 : ((List Int) × Int × (List Int) × Int)) : Option (((List Int) × Int × (List Int) × Int) ⊕ ((List Int) × Int × (List Int))) :=
  (if (decide (0 < sv168.2.2.2)) = true then
    (made_Dice_Next (⟨sv168.1, sv168.2.1⟩ : Dice) 4).bind fun rv255 =>
    (appM 8 sv168.2.2.1 ([rv255.1] : List Int)).bind fun l262 =>
    (some (w64 (sv168.2.2.2 - 1))).bind fun i278 =>
    some (Sum.inl (rv255.2.L, rv255.2.At, l262, i278))
  else
    some (Sum.inr (sv168.1, sv168.2.1, sv168.2.2.1)))
noncomputable def made_Dice_Record (d1 : Dice) (s6 : SourceID) (n7 : Int) : Option (Record × Dice) :=
  (made_Dice_Pick d1 ([1, 2, 2, 3] : List Int)).bind fun rv13 =>
  (made_Dice_Pick rv13.2 ([1, 1, 1, 3] : List Int)).bind fun rv26 =>
  (ref02_New rv13.1 rv26.1).bind fun rv37 =>
  (made_Dice_Next rv26.2 40).bind fun rv45 =>
  (made_Dice_Pick rv45.2 ([0, 0, 3] : List Int)).bind fun rv52 =>
  (made_Dice_Pick rv52.2 ([0, 0, 10, 500] : List Int)).bind fun rv59 =>
  (made_Dice_Next rv59.2 2).bind fun rv64 =>
  (made_Dice_Next rv64.2 6).bind fun rv69 =>
  (made_Dice_Next rv69.2 n7).bind fun rv157 =>
  (some (w64 (1 + rv157.1))).bind fun i167 =>
  (whileM (made_Dice_Record_l1) (rv157.2.L, rv157.2.At, ([] : List Int), i167)).bind fun e232 =>
  some ((⟨s6, (w64 (1000000000000 + (w64 (250000 * rv45.1)))), rv52.1, rv37.1, rv59.1, rv64.1, rv69.1, e232.2.2⟩ : Record), (⟨e232.1, e232.2.1⟩ : Dice))

-- seismonet/record.Follows
noncomputable def record_Follows (a1 : Record) (b5 : Record) (tolerance9 : Int) : Option Bool :=
  (record_Valid a1).bind fun rv13 =>
  ((if (!rv13) = true then
    some true
  else
    (record_Valid b5).bind fun rv30 =>
    some (!rv30))).bind fun c27 =>
  ((if ((c27 || (!((a1.Source.Network == b5.Source.Network) && ((a1.Source.Station == b5.Source.Station) && ((a1.Source.Location == b5.Source.Location) && ((a1.Source.Channel == b5.Source.Channel) && true)))))) || (!((a1.Rate.Num == b5.Rate.Num) && ((a1.Rate.Den == b5.Rate.Den) && true)))) = true then
    some true
  else
    (record_in tolerance9 0 9007199254740992).bind fun rv49 =>
    some (!rv49))).bind fun c46 =>
  (if c46 = true then
    some false
  else
    (record_time b5 0).bind fun rv58 =>
    (record_time a1 (a1.Samples.length : Int)).bind fun rv60 =>
    (record_in (w64 (rv58 - rv60)) (w64 (0 - tolerance9)) tolerance9).bind fun rv62 =>
    some rv62)

-- slices.Equal[[]int,int]
noncomputable def slices_Equal_Lint_int_l2 (s1_1 : (List Int)) (s2_5 : (List Int)) (sv103 : Int) : Option (Int ⊕ Bool) :=
  (if (decide (sv103 < (s1_1.length : Int))) = true then
    (ix s1_1 sv103).bind fun x229 =>
    (ix s2_5 sv103).bind fun x242 =>
    (if (x229 != x242) = true then
      some (Sum.inr false)
    else
      some (Sum.inl (w64 (sv103 + 1))))
  else
    Option.map Sum.inr (some true))
noncomputable def slices_Equal_Lint_int (s1_1 : (List Int)) (s2_5 : (List Int)) : Option Bool :=
  (if ((s1_1.length : Int) != (s2_5.length : Int)) = true then
    some false
  else
    whileM (slices_Equal_Lint_int_l2 s1_1 s2_5) (0))

-- seismonet/record.Same
noncomputable def record_Same (a1 : Record) (b5 : Record) : Option Bool :=
  ((if ((((((((a1.Source.Network == b5.Source.Network) && ((a1.Source.Station == b5.Source.Station) && ((a1.Source.Location == b5.Source.Location) && ((a1.Source.Channel == b5.Source.Channel) && true)))) && (a1.Start == b5.Start)) && (a1.First == b5.First)) && ((a1.Rate.Num == b5.Rate.Num) && ((a1.Rate.Den == b5.Rate.Den) && true))) && (a1.Error == b5.Error)) && (a1.Run == b5.Run)) && (a1.Seq == b5.Seq)) = true then
    (slices_Equal_Lint_int a1.Samples b5.Samples).bind fun rv28 =>
    some rv28
  else
    some false)).bind fun c25 =>
  some c25

-- seismonet/seismonetlaw14.RecordParts
noncomputable def law14_RecordParts_j1 (rv51 : (Record × Dice)) (sv360 : Int) (rv629 : (Int × Int)) (x643 : ByteArray) (x644 : ByteArray) (x645 : ByteArray) (x646 : ByteArray) (x647 : Int) (x648 : Int) (x649 : Int) (x650 : Int) (x651 : Int) (x652 : Int) (x653 : Int) (x654 : (List Int)) (q655 : Int) : Option (Int ⊕ Bool) :=
  (record_At (⟨(⟨x643, x644, x645, x646⟩ : SourceID), x647, x648, (⟨x649, x650⟩ : Rate), x651, x652, x653, x654⟩ : Record) q655).bind fun rv657 =>
  (if (((rv629.2 != 0) || (rv657.2 != 0)) || (rv629.1 != rv657.1)) = true then
    some true
  else
    (ix x654 q655).bind fun x665 =>
    (ix rv51.1.Samples sv360).bind fun x678 =>
    some (x665 != x678)).bind fun c689 =>
  (if c689 = true then
    some (Sum.inr false)
  else
    some (Sum.inl (w64 (sv360 + 1))))
noncomputable def law14_RecordParts_l2 (rv51 : (Record × Dice)) (k84 : Int) (rv86 : (Record × Int)) (rv99 : (Record × Int)) (sv360 : Int) : Option (Int ⊕ Bool) :=
  (if (decide (sv360 < (rv51.1.Samples.length : Int))) = true then
    (record_At rv51.1 sv360).bind fun rv629 =>
    (if (decide (k84 ≤ sv360)) = true then
      (some (w64 (sv360 - k84))).bind fun q821 =>
      law14_RecordParts_j1 rv51 sv360 rv629 rv99.1.Source.Network rv99.1.Source.Station rv99.1.Source.Location rv99.1.Source.Channel rv99.1.Start rv99.1.First rv99.1.Rate.Num rv99.1.Rate.Den rv99.1.Error rv99.1.Run rv99.1.Seq rv99.1.Samples q821
    else
      law14_RecordParts_j1 rv51 sv360 rv629 rv86.1.Source.Network rv86.1.Source.Station rv86.1.Source.Location rv86.1.Source.Channel rv86.1.Start rv86.1.First rv86.1.Rate.Num rv86.1.Rate.Den rv86.1.Error rv86.1.Run rv86.1.Seq rv86.1.Samples sv360)
  else
    Option.map Sum.inr ((made_Dice_Next rv51.2 (rv99.1.Samples.length : Int)).bind fun rv823 =>
    (record_Sub rv99.1 rv823.1 (rv99.1.Samples.length : Int)).bind fun rv833 =>
    (record_Sub rv51.1 (w64 (k84 + rv823.1)) (rv51.1.Samples.length : Int)).bind fun rv846 =>
    ((if ((rv833.2 == 0) && (rv846.2 == 0)) = true then
      (record_Same rv833.1 rv846.1).bind fun rv869 =>
      some rv869
    else
      some false)).bind fun c866 =>
    ((if c866 = true then
      (law14_sane).bind fun rv886 =>
      some rv886
    else
      some false)).bind fun c883 =>
    some c883))
noncomputable def law14_RecordParts (t1 : (List Int)) (n5 : Int) : Option Bool :=
  (made_Light t1).bind fun rv7 =>
  (if (!rv7) = true then
    (law14_sane).bind fun rv23 =>
    some rv23
  else
    (made_Roll t1).bind fun rv30 =>
    (made_Dice_Source rv30).bind fun rv41 =>
    (made_Dice_Record rv41.2 rv41.1 12).bind fun rv51 =>
    (if (decide ((rv51.1.Samples.length : Int) < 2)) = true then
      (law14_sane).bind fun rv75 =>
      some rv75
    else
      (remM (w64 n5) (w64 ((rv51.1.Samples.length : Int) - 1))).bind fun rem82 =>
      (some (w64 (1 + rem82))).bind fun k84 =>
      (record_Sub rv51.1 0 k84).bind fun rv86 =>
      (record_Sub rv51.1 k84 (rv51.1.Samples.length : Int)).bind fun rv99 =>
      (record_Span rv86.1).bind fun rv111 =>
      (record_Span rv99.1).bind fun rv119 =>
      (record_Span rv51.1).bind fun rv127 =>
      ((if ((((((((rv86.2 != 0) || (rv99.2 != 0)) || (rv111.2 != 0)) || (rv119.2 != 0)) || (rv127.2 != 0)) || (rv111.1.From != rv127.1.From)) || (rv111.1.To != rv119.1.From)) || (rv119.1.To != rv127.1.To)) = true then
        some true
      else
        (record_Follows rv86.1 rv99.1 0).bind fun rv152 =>
        some (!rv152))).bind fun c149 =>
      (if c149 = true then
        some false
      else
        whileM (law14_RecordParts_l2 rv51 k84 rv86 rv99) (0))))

-- seismonet/seismonetref03.code
noncomputable def ref03_code_l2 (s1 : ByteArray) (lo2 : Int) (hi3 : Int) (sv111 : Int) : Option (Int ⊕ Bool) :=
  (if (decide (sv111 < (s1.size : Int))) = true then
    (byteAt s1 sv111).bind fun c254 =>
    ((if (decide (65 ≤ c254)) = true then
      (byteAt s1 sv111).bind fun c261 =>
      some (decide (c261 ≤ 90))
    else
      some false)).bind fun c258 =>
    ((if c258 = true then
      some true
    else
      (byteAt s1 sv111).bind fun c275 =>
      ((if (decide (48 ≤ c275)) = true then
        (byteAt s1 sv111).bind fun c282 =>
        some (true, (decide (c282 ≤ 57)))
      else
        some (false, false))).bind fun c279 =>
      some c279.2)).bind fun c272 =>
    (if (!c272) = true then
      some (Sum.inr false)
    else
      (some (w64 (sv111 + 1))).bind fun i287 =>
      some (Sum.inl i287))
  else
    Option.map Sum.inr (some ((decide (lo2 ≤ (s1.size : Int))) && (decide ((s1.size : Int) ≤ hi3)))))
noncomputable def ref03_code (s1 : ByteArray) (lo2 : Int) (hi3 : Int) : Option Bool :=
  whileM (ref03_code_l2 s1 lo2 hi3) (0)

-- seismonet/seismonetref03.Valid
noncomputable def ref03_Valid (s1 : SourceID) : Option Bool :=
  (ref03_code s1.Network 1 2).bind fun rv4 =>
  ((if rv4 = true then
    (ref03_code s1.Station 1 5).bind fun rv21 =>
    some rv21
  else
    some false)).bind fun c18 =>
  ((if c18 = true then
    ((if (s1.Location.toList == (⟨#[]⟩ : ByteArray).toList) = true then
      some true
    else
      (ref03_code s1.Location 2 2).bind fun rv58 =>
      some rv58)).bind fun c55 =>
    some c55
  else
    some false)).bind fun c45 =>
  ((if c45 = true then
    (ref03_code s1.Channel 3 3).bind fun rv75 =>
    some rv75
  else
    some false)).bind fun c72 =>
  some c72

-- seismonet/seismonetref02.Valid
noncomputable def ref02_Valid (r1 : Rate) : Option Bool :=
  (ref01_In r1.Num 1 4096).bind fun rv4 =>
  ((if rv4 = true then
    (ref01_In r1.Den 1 4096).bind fun rv21 =>
    some rv21
  else
    some false)).bind fun c18 =>
  ((if c18 = true then
    (ref02_gcd r1.Num r1.Den).bind fun rv38 =>
    some (rv38 == 1)
  else
    some false)).bind fun c35 =>
  some c35

-- seismonet/seismonetref05.Sample
noncomputable def ref05_Sample (n1 : Int) : Option Bool :=
  (ref01_In n1 (-1073741823) 1073741823).bind fun rv3 =>
  some rv3

-- seismonet/seismonetref05.InRange
noncomputable def ref05_InRange_l2 (l1 : (List Int)) (sv82 : Int) : Option (Int ⊕ Bool) :=
  (if (decide (sv82 < (l1.length : Int))) = true then
    (ix l1 sv82).bind fun x186 =>
    (ref05_Sample x186).bind fun rv198 =>
    (if (!rv198) = true then
      some (Sum.inr false)
    else
      (some (w64 (sv82 + 1))).bind fun i208 =>
      some (Sum.inl i208))
  else
    Option.map Sum.inr (some true))
noncomputable def ref05_InRange (l1 : (List Int)) : Option Bool :=
  whileM (ref05_InRange_l2 l1) (0)

-- seismonet/seismonetref02.Time
noncomputable def ref02_Time (start1 : Int) (r2 : Rate) (k3 : Int) : Option (Int × Int) :=
  (ref02_Valid r2).bind fun rv6 =>
  (if (!rv6) = true then
    some (0, 1)
  else
    (ref01_In start1 0 9007199254740992).bind fun rv15 =>
    ((if (!rv15) = true then
      some true
    else
      (ref01_In k3 0 16777216).bind fun rv32 =>
      some (!rv32))).bind fun c29 =>
    (if c29 = true then
      some (0, 2)
    else
      (quoM .i64 (w64 ((w64 (k3 * r2.Den)) * 1000000)) r2.Num).bind fun quo41 =>
      (some (w64 (start1 + quo41))).bind fun x43 =>
      some (x43, 0)))

-- seismonet/seismonetref14.Time
noncomputable def ref14_Time (r1 : Record) (i5 : Int) : Option Int :=
  (ref02_Time r1.Start r1.Rate (w64 (r1.First + i5))).bind fun rv8 =>
  some rv8.1

-- seismonet/seismonetref14.Valid
noncomputable def ref14_Valid (r1 : Record) : Option Bool :=
  (ref03_Valid r1.Source).bind fun rv7 =>
  ((if (!rv7) = true then
    some true
  else
    (ref02_Valid r1.Rate).bind fun rv24 =>
    some (!rv24))).bind fun c21 =>
  ((if c21 = true then
    some true
  else
    (ref01_In r1.Start 0 9007199254740992).bind fun rv41 =>
    some (!rv41))).bind fun c38 =>
  ((if c38 = true then
    some true
  else
    (ref01_In r1.First 0 16777216).bind fun rv58 =>
    some (!rv58))).bind fun c55 =>
  ((if c55 = true then
    some true
  else
    (ref01_In (r1.Samples.length : Int) 1 65536).bind fun rv75 =>
    some (!rv75))).bind fun c72 =>
  ((if (c72 || (decide (16777216 < (w64 (r1.First + (r1.Samples.length : Int)))))) = true then
    some true
  else
    (ref05_InRange r1.Samples).bind fun rv93 =>
    some (!rv93))).bind fun c90 =>
  (if c90 = true then
    some false
  else
    (ref01_In r1.Error 0 1099511627776).bind fun rv102 =>
    ((if rv102 = true then
      (ref01_In r1.Run 0 65535).bind fun rv119 =>
      some rv119
    else
      some false)).bind fun c116 =>
    ((if c116 = true then
      (ref01_In r1.Seq 0 1073741824).bind fun rv136 =>
      some rv136
    else
      some false)).bind fun c133 =>
    ((if c133 = true then
      (ref14_Time r1 (r1.Samples.length : Int)).bind fun rv153 =>
      some (decide (rv153 ≤ 9007199254740992))
    else
      some false)).bind fun c150 =>
    some c150)

-- seismonet/seismonetref14.Span
noncomputable def ref14_Span (r1 : Record) : Option (Span × Int) :=
  (ref14_Valid r1).bind fun rv8 =>
  (if (!rv8) = true then
    some ((⟨0, 0⟩ : Span), 1)
  else
    (ref14_Time r1 0).bind fun rv17 =>
    (ref14_Time r1 (r1.Samples.length : Int)).bind fun rv19 =>
    some ((⟨rv17, rv19⟩ : Span), 0))

-- sort.Search
noncomputable def sort_Search_j1 (i98 : Int) (j99 : Int) : Option ((Int × Int) ⊕ Int) :=
  some (Sum.inl (i98, j99))
noncomputable def sort_Search_l1 (f2 : Int → Option Bool) (sv7 : (Int × Int)) : Option ((Int × Int) ⊕ Int) :=
  (if (decide (sv7.1 < sv7.2)) = true then
    (shrM .u64 (IntKind.u64.wrap (w64 (sv7.1 + sv7.2))) 1).bind fun shr85 =>
    (some (w64 shr85)).bind fun h87 =>
    (f2 h87).bind fun rv89 =>
    (if (!rv89) = true then
      (some (w64 (h87 + 1))).bind fun i102 =>
      sort_Search_j1 i102 sv7.2
    else
      sort_Search_j1 sv7.1 h87)
  else
    some (Sum.inr sv7.1))
noncomputable def sort_Search (n1 : Int) (f2 : Int → Option Bool) : Option Int :=
  (whileM (sort_Search_l1 f2) (0, n1)).bind fun e64 =>
  some e64

-- seismonet/record.first$1
noncomputable def record_first_fn1 (i1 : Int) (x2 : Record) (x8 : Int) (x11 : Int) : Option Bool :=
  (record_time x2 (w64 (i1 + x8))).bind fun rv15 =>
  some (decide (x11 ≤ rv15))

-- seismonet/record.first
noncomputable def record_first (r1 : Record) (offset5 : Int) (t6 : Int) : Option Int :=
  (sort_Search (r1.Samples.length : Int) (fun y0 => record_first_fn1 y0 r1 offset5 t6)).bind fun rv11 =>
  some rv11

-- seismonet/record.part
noncomputable def record_part (r1 : Record) (from5 : Int) (to6 : Int) : Option (Record × Bool × Int) :=
  (if (decide (to6 ≤ from5)) = true then
    some ((⟨(⟨ByteArray.empty, ByteArray.empty, ByteArray.empty, ByteArray.empty⟩ : SourceID), 0, 0, (⟨0, 0⟩ : Rate), 0, 0, 0, ([] : List Int)⟩ : Record), false, 0)
  else
    (record_sub r1 from5 to6).bind fun rv12 =>
    some (rv12, true, 0))

-- seismonet/record.Cut
noncomputable def record_Cut (r1 : Record) (from5 : Int) (to6 : Int) : Option (Record × Bool × Int) :=
  (record_Valid r1).bind fun rv10 =>
  (if (!rv10) = true then
    some ((⟨(⟨ByteArray.empty, ByteArray.empty, ByteArray.empty, ByteArray.empty⟩ : SourceID), 0, 0, (⟨0, 0⟩ : Rate), 0, 0, 0, ([] : List Int)⟩ : Record), false, 1)
  else
    (record_first r1 0 from5).bind fun rv19 =>
    (record_first r1 0 to6).bind fun rv21 =>
    (record_part r1 rv19 rv21).bind fun rv23 =>
    some (rv23.1, rv23.2.1, rv23.2.2))

-- seismonet/record.Inside$1
noncomputable def record_Inside_fn1 (i1 : Int) (x2 : Record) (x8 : Int) : Option Bool :=
  (record_time x2 (w64 (i1 + 1))).bind fun rv12 =>
  some (decide (x8 < rv12))

-- seismonet/record.Inside
noncomputable def record_Inside (r1 : Record) (from5 : Int) (to6 : Int) : Option (Record × Bool × Int) :=
  (record_Valid r1).bind fun rv11 =>
  (if (!rv11) = true then
    some ((⟨(⟨ByteArray.empty, ByteArray.empty, ByteArray.empty, ByteArray.empty⟩ : SourceID), 0, 0, (⟨0, 0⟩ : Rate), 0, 0, 0, ([] : List Int)⟩ : Record), false, 1)
  else
    (sort_Search (r1.Samples.length : Int) (fun y0 => record_Inside_fn1 y0 r1 to6)).bind fun rv20 =>
    (record_first r1 0 from5).bind fun rv27 =>
    (record_part r1 rv27 rv20).bind fun rv29 =>
    some (rv29.1, rv29.2.1, rv29.2.2))

-- seismonet/seismonetref14.At
noncomputable def ref14_At (r1 : Record) (i5 : Int) : Option (Int × Int) :=
  (ref14_Valid r1).bind fun rv8 =>
  (if (!rv8) = true then
    some (0, 1)
  else
    (ref01_In i5 0 (r1.Samples.length : Int)).bind fun rv17 =>
    (if (!rv17) = true then
      some (0, 2)
    else
      (ref14_Time r1 i5).bind fun rv26 =>
      some (rv26, 0)))

-- seismonet/seismonetlaw14.RecordWindows
noncomputable def law14_RecordWindows_j2 (sv372 : (Int × Int × Int)) (cut776 : Int) (inv811 : Int) : Option ((Int × Int × Int) ⊕ Bool) :=
  some (Sum.inl (cut776, inv811, (w64 (sv372.2.2 + 1))))
noncomputable def law14_RecordWindows_j1 (rv52 : (Record × Dice)) (fromv75 : Int) (to77 : Int) (rv92 : (Record × Bool × Int)) (sv372 : (Int × Int × Int)) (rv729 : (Int × Int)) (rv736 : (Int × Int)) (cut776 : Int) : Option ((Int × Int × Int) ⊕ Bool) :=
  (if ((decide (fromv75 ≤ rv729.1)) && (decide (rv736.1 ≤ to77))) = true then
    (if ((!rv92.2.1) || (decide ((rv92.1.Samples.length : Int) ≤ sv372.2.1))) = true then
      some true
    else
      (ix rv92.1.Samples sv372.2.1).bind fun x815 =>
      (ix rv52.1.Samples sv372.2.2).bind fun x828 =>
      some (x815 != x828)).bind fun c839 =>
    (if c839 = true then
      some (Sum.inr false)
    else
      (some (w64 (sv372.2.1 + 1))).bind fun inv906 =>
      law14_RecordWindows_j2 sv372 cut776 inv906)
  else
    law14_RecordWindows_j2 sv372 cut776 sv372.2.1)
noncomputable def law14_RecordWindows_j4 (rv52 : (Record × Dice)) (rv79 : (Record × Bool × Int)) (rv92 : (Record × Bool × Int)) (sv372 : (Int × Int × Int)) (rv1005 : (Record × Bool × Int)) (rv1017 : (Record × Bool × Int)) (k1037 : Int) : Option Bool :=
  ((if (((((((rv1005.2.2 == 0) && (rv1017.2.2 == 0)) && (sv372.1 == (rv79.1.Samples.length : Int))) && (sv372.2.1 == (rv92.1.Samples.length : Int))) && ((decide (0 < sv372.1)) == rv79.2.1)) && ((decide (0 < sv372.2.1)) == rv92.2.1)) && ((w64 (k1037 + sv372.1)) == (rv52.1.Samples.length : Int))) = true then
    (law14_sane).bind fun rv1055 =>
    some rv1055
  else
    some false)).bind fun c1052 =>
  some c1052
noncomputable def law14_RecordWindows_j3 (rv52 : (Record × Dice)) (rv79 : (Record × Bool × Int)) (rv92 : (Record × Bool × Int)) (sv372 : (Int × Int × Int)) (rv1005 : (Record × Bool × Int)) (rv1017 : (Record × Bool × Int)) (k1032 : Int) : Option Bool :=
  (if rv1017.2.1 = true then
    (some (w64 (k1032 + (rv1017.1.Samples.length : Int)))).bind fun k1069 =>
    law14_RecordWindows_j4 rv52 rv79 rv92 sv372 rv1005 rv1017 k1069
  else
    law14_RecordWindows_j4 rv52 rv79 rv92 sv372 rv1005 rv1017 k1032)
noncomputable def law14_RecordWindows_l2 (rv52 : (Record × Dice)) (fromv75 : Int) (to77 : Int) (rv79 : (Record × Bool × Int)) (rv92 : (Record × Bool × Int)) (sv372 : (Int × Int × Int)) : Option ((Int × Int × Int) ⊕ Bool) :=
  (if (decide (sv372.2.2 < (rv52.1.Samples.length : Int))) = true then
    (ref14_At rv52.1 sv372.2.2).bind fun rv729 =>
    (ref14_At rv52.1 (w64 (sv372.2.2 + 1))).bind fun rv736 =>
    (if ((decide (fromv75 ≤ rv729.1)) && (decide (rv729.1 < to77))) = true then
      (if ((!rv79.2.1) || (decide ((rv79.1.Samples.length : Int) ≤ sv372.1))) = true then
        some true
      else
        (ix rv79.1.Samples sv372.1).bind fun x911 =>
        (ix rv52.1.Samples sv372.2.2).bind fun x924 =>
        some (x911 != x924)).bind fun c935 =>
      (if c935 = true then
        some (Sum.inr false)
      else
        (some (w64 (sv372.1 + 1))).bind fun cut1002 =>
        law14_RecordWindows_j1 rv52 fromv75 to77 rv92 sv372 rv729 rv736 cut1002)
    else
      law14_RecordWindows_j1 rv52 fromv75 to77 rv92 sv372 rv729 rv736 sv372.1)
  else
    Option.map Sum.inr ((record_Cut rv52.1 0 fromv75).bind fun rv1005 =>
    (record_Cut rv52.1 to77 9007199254740992).bind fun rv1017 =>
    (if rv1005.2.1 = true then
      (some (w64 (0 + (rv1005.1.Samples.length : Int)))).bind fun k1072 =>
      law14_RecordWindows_j3 rv52 rv79 rv92 sv372 rv1005 rv1017 k1072
    else
      law14_RecordWindows_j3 rv52 rv79 rv92 sv372 rv1005 rv1017 0)))
noncomputable def law14_RecordWindows (t1 : (List Int)) (n5 : Int) (m6 : Int) : Option Bool :=
  (made_Light t1).bind fun rv8 =>
  (if (!rv8) = true then
    (law14_sane).bind fun rv24 =>
    some rv24
  else
    (made_Roll t1).bind fun rv31 =>
    (made_Dice_Source rv31).bind fun rv42 =>
    (made_Dice_Record rv42.2 rv42.1 12).bind fun rv52 =>
    (ref14_Span rv52.1).bind fun rv67 =>
    (some (w64 ((w64 (rv67.1.From + (w64 (111111 * (Int.tmod (w64 n5) 40))))) - 500000))).bind fun fromv75 =>
    (some (w64 (fromv75 + (w64 (111111 * (Int.tmod (w64 m6) 40)))))).bind fun to77 =>
    (record_Cut rv52.1 fromv75 to77).bind fun rv79 =>
    (record_Inside rv52.1 fromv75 to77).bind fun rv92 =>
    (if ((rv79.2.2 != 0) || (rv92.2.2 != 0)) = true then
      some false
    else
      whileM (law14_RecordWindows_l2 rv52 fromv75 to77 rv79 rv92) (0, 0, 0)))

-- (*seismonet/seismonetmade.Dice).Records
noncomputable def made_Dice_Records_j1 (sv28 : ((List Int) × Int × (List Record) × Int)) (x576 : (List Int)) (x577 : Int) (x578 : ByteArray) (x579 : ByteArray) (x580 : ByteArray) (x581 : ByteArray) (x582 : Int) (x583 : Int) (x584 : Int) (x585 : Int) (x586 : Int) (x587 : Int) (x588 : Int) (x589 : (List Int)) : Option (((List Int) × Int × (List Record) × Int) ⊕ ((List Int) × Int × (List Record))) :=
  (appM 144 sv28.2.2.1 ([(⟨(⟨x578, x579, x580, x581⟩ : SourceID), x582, x583, (⟨x584, x585⟩ : Rate), x586, x587, x588, x589⟩ : Record)] : List Record)).bind fun l593 =>
  (some (w64 (sv28.2.2.2 - 1))).bind fun i598 =>
  some (Sum.inl (x576, x577, l593, i598))
noncomputable def made_Dice_Records_l1 (rv8 : (SourceID × Dice)) (sv28 : ((List Int) × Int × (List Record) × Int)) : Option (((List Int) × Int × (List Record) × Int) ⊕ ((List Int) × Int × (List Record))) :=
  (if (decide (0 < sv28.2.2.2)) = true then
    (made_Dice_Record (⟨sv28.1, sv28.2.1⟩ : Dice) rv8.1 6).bind fun rv491 =>
    ((if (decide (0 < (sv28.2.2.1.length : Int))) = true then
      (made_Dice_Next rv491.2 5).bind fun rv521 =>
      some (rv521.2.L, rv521.2.At, (rv521.1 == 0))
    else
      some (rv491.2.L, rv491.2.At, false))).bind fun c516 =>
    (if c516.2.2 = true then
      (made_Dice_Next (⟨c516.1, c516.2.1⟩ : Dice) (sv28.2.2.1.length : Int)).bind fun rv601 =>
      (ix sv28.2.2.1 rv601.1).bind fun x612 =>
      (made_Dice_Pick rv601.2 ([x612.Seq, 9] : List Int)).bind fun rv630 =>
      made_Dice_Records_j1 sv28 rv630.2.L rv630.2.At x612.Source.Network x612.Source.Station x612.Source.Location x612.Source.Channel x612.Start x612.First x612.Rate.Num x612.Rate.Den x612.Error x612.Run rv630.1 x612.Samples
    else
      made_Dice_Records_j1 sv28 c516.1 c516.2.1 rv491.1.Source.Network rv491.1.Source.Station rv491.1.Source.Location rv491.1.Source.Channel rv491.1.Start rv491.1.First rv491.1.Rate.Num rv491.1.Rate.Den rv491.1.Error rv491.1.Run rv491.1.Seq rv491.1.Samples)
  else
    some (Sum.inr (sv28.1, sv28.2.1, sv28.2.2.1)))
noncomputable def made_Dice_Records (d1 : Dice) (n6 : Int) : Option ((List Record) × Dice) :=
  (made_Dice_Source d1).bind fun rv8 =>
  (made_Dice_Next rv8.2 (w64 (n6 + 1))).bind fun rv19 =>
  (whileM (made_Dice_Records_l1 rv8) (rv19.2.L, rv19.2.At, ([] : List Record), rv19.1)).bind fun e374 =>
  some (e374.2.2, (⟨e374.1, e374.2.1⟩ : Dice))

-- cmp.isNaN[string]
noncomputable def cmp_isNaN_string (x1 : ByteArray) : Option Bool :=
  some (!(x1.toList == x1.toList))

-- cmp.Compare[string]
noncomputable def cmp_Compare_string (x1 : ByteArray) (y2 : ByteArray) : Option Int :=
  (cmp_isNaN_string x1).bind fun rv4 =>
  (cmp_isNaN_string y2).bind fun rv11 =>
  (if rv4 = true then
    (if rv11 = true then
      some 0
    else
      some (-1))
  else
    (if rv11 = true then
      some 1
    else
      (if (Op.bytesLess x1.toList y2.toList) = true then
        some (-1)
      else
        (if (!((Op.bytesLess x1.toList y2.toList) || (x1.toList == y2.toList))) = true then
          some 1
        else
          some 0))))

-- cmp.Or[int]
noncomputable def cmp_Or_int_l2 (vals1 : (List Int)) (sv55 : Int) : Option (Int ⊕ Int) :=
  (if (decide (sv55 < (vals1.length : Int))) = true then
    (ix vals1 sv55).bind fun x125 =>
    (if (x125 != 0) = true then
      some (Sum.inr x125)
    else
      some (Sum.inl (w64 (sv55 + 1))))
  else
    Option.map Sum.inr (some 0))
noncomputable def cmp_Or_int (vals1 : (List Int)) : Option Int :=
  whileM (cmp_Or_int_l2 vals1) (0)

-- seismonet/source.Compare
noncomputable def source_Compare (a1 : SourceID) (b2 : SourceID) : Option Int :=
  (cmp_Compare_string a1.Network b2.Network).bind fun rv6 =>
  (cmp_Compare_string a1.Station b2.Station).bind fun rv8 =>
  (cmp_Compare_string a1.Location b2.Location).bind fun rv10 =>
  (cmp_Compare_string a1.Channel b2.Channel).bind fun rv12 =>
  (cmp_Or_int ([rv6, rv8, rv10, rv12] : List Int)).bind fun rv16 =>
  some rv16

-- seismonet/record.begin
noncomputable def record_begin (r1 : Record) : Option Int :=
  (record_Valid r1).bind fun rv7 =>
  (if (!rv7) = true then
    some 0
  else
    (record_time r1 0).bind fun rv16 =>
    some rv16)

-- cmp.isNaN[int]
noncomputable def cmp_isNaN_int (x1 : Int) : Option Bool :=
  some (x1 != x1)

-- cmp.Compare[int]
noncomputable def cmp_Compare_int (x1 : Int) (y2 : Int) : Option Int :=
  (cmp_isNaN_int x1).bind fun rv4 =>
  (cmp_isNaN_int y2).bind fun rv11 =>
  (if rv4 = true then
    (if rv11 = true then
      some 0
    else
      some (-1))
  else
    (if rv11 = true then
      some 1
    else
      (if (decide (x1 < y2)) = true then
        some (-1)
      else
        (if (decide (y2 < x1)) = true then
          some 1
        else
          some 0))))

-- slices.Compare[[]int,int]
noncomputable def slices_Compare_Lint_int_l2 (s1_1 : (List Int)) (s2_5 : (List Int)) (sv122 : Int) : Option (Int ⊕ Int) :=
  (if (decide (sv122 < (s1_1.length : Int))) = true then
    (ix s1_1 sv122).bind fun x276 =>
    (if (decide ((s2_5.length : Int) ≤ sv122)) = true then
      some (Sum.inr 1)
    else
      (ix s2_5 sv122).bind fun x292 =>
      (cmp_Compare_int x276 x292).bind fun rv304 =>
      (if (rv304 != 0) = true then
        some (Sum.inr rv304)
      else
        some (Sum.inl (w64 (sv122 + 1)))))
  else
    Option.map Sum.inr ((if (decide ((s1_1.length : Int) < (s2_5.length : Int))) = true then
      some (-1)
    else
      some 0)))
noncomputable def slices_Compare_Lint_int (s1_1 : (List Int)) (s2_5 : (List Int)) : Option Int :=
  whileM (slices_Compare_Lint_int_l2 s1_1 s2_5) (0)

-- seismonet/record.Compare
noncomputable def record_Compare (a1 : Record) (b5 : Record) : Option Int :=
  (source_Compare a1.Source b5.Source).bind fun rv12 =>
  (record_begin a1).bind fun rv14 =>
  (record_begin b5).bind fun rv16 =>
  (cmp_Compare_int rv14 rv16).bind fun rv18 =>
  (cmp_Compare_int a1.Start b5.Start).bind fun rv20 =>
  (cmp_Compare_int a1.First b5.First).bind fun rv22 =>
  (cmp_Compare_int a1.Rate.Num b5.Rate.Num).bind fun rv24 =>
  (cmp_Compare_int a1.Rate.Den b5.Rate.Den).bind fun rv26 =>
  (cmp_Compare_int a1.Error b5.Error).bind fun rv28 =>
  (cmp_Compare_int a1.Run b5.Run).bind fun rv30 =>
  (cmp_Compare_int a1.Seq b5.Seq).bind fun rv32 =>
  (cmp_Compare_int (a1.Samples.length : Int) (b5.Samples.length : Int)).bind fun rv34 =>
  (slices_Compare_Lint_int a1.Samples b5.Samples).bind fun rv36 =>
  (cmp_Or_int ([rv12, rv18, rv20, rv22, rv24, rv26, rv28, rv30, rv32, rv34, rv36] : List Int)).bind fun rv40 =>
  some rv40

-- seismonet/record.Better
noncomputable def record_Better (a1 : Record) (b5 : Record) : Option Bool :=
  (cmp_Compare_int a1.Error b5.Error).bind fun rv12 =>
  (cmp_Compare_int b5.Run a1.Run).bind fun rv14 =>
  (cmp_Compare_int b5.Seq a1.Seq).bind fun rv16 =>
  (record_Compare a1 b5).bind fun rv18 =>
  (cmp_Or_int ([rv12, rv14, rv16, rv18] : List Int)).bind fun rv22 =>
  some (decide (rv22 < 0))

-- seismonet/seismonetlaw14.RecordOrder
noncomputable def law14_RecordOrder_l41 (rv40 : ((List Record) × Dice)) (sv4882 : Int) (sv12929 : Int) (rv15104 : Int) (rv15246 : Bool) (sv15670 : Int) : Option (Int ⊕ (Int ⊕ (Int ⊕ Bool))) :=
  (if (decide (sv15670 < (rv40.1.length : Int))) = true then
    (if (decide (rv15104 < 0)) = true then
      (ix rv40.1 sv12929).bind fun x16160 =>
      (ix rv40.1 sv15670).bind fun x16173 =>
      (record_Compare x16160 x16173).bind fun rv16185 =>
      some (decide (rv16185 < 0))
    else
      some false).bind fun c16186 =>
    (if c16186 = true then
      (ix rv40.1 sv4882).bind fun x16189 =>
      (ix rv40.1 sv15670).bind fun x16202 =>
      (record_Compare x16189 x16202).bind fun rv16214 =>
      some (decide (0 ≤ rv16214))
    else
      some false).bind fun c16215 =>
    (if c16215 = true then
      some true
    else
      (if rv15246 = true then
        (ix rv40.1 sv12929).bind fun x16218 =>
        (ix rv40.1 sv15670).bind fun x16231 =>
        (record_Better x16218 x16231).bind fun rv16243 =>
        some rv16243
      else
        some false).bind fun c16244 =>
      (if c16244 = true then
        (ix rv40.1 sv4882).bind fun x16247 =>
        (ix rv40.1 sv15670).bind fun x16260 =>
        (record_Better x16247 x16260).bind fun rv16272 =>
        some (!rv16272)
      else
        some false).bind fun c16273 =>
      some c16273).bind fun c16274 =>
    (if c16274 = true then
      some (Sum.inr (Sum.inr (Sum.inr false)))
    else
      some (Sum.inl (w64 (sv15670 + 1))))
  else
    Option.map Sum.inr (some (Sum.inl (w64 (sv12929 + 1)))))
noncomputable def law14_RecordOrder_l37 (rv40 : ((List Record) × Dice)) (sv4882 : Int) (sv12929 : Int) : Option (Int ⊕ (Int ⊕ Bool)) :=
  (if (decide (sv12929 < (rv40.1.length : Int))) = true then
    (ix rv40.1 sv4882).bind fun x15075 =>
    (ix rv40.1 sv12929).bind fun x15092 =>
    (record_Compare x15075 x15092).bind fun rv15104 =>
    (ix rv40.1 sv12929).bind fun x15113 =>
    (ix rv40.1 sv4882).bind fun x15126 =>
    (record_Compare x15113 x15126).bind fun rv15138 =>
    (if (rv15104 != (w64 (0 - rv15138))) = true then
      some true
    else
      (ix rv40.1 sv4882).bind fun x15141 =>
      (ix rv40.1 sv12929).bind fun x15154 =>
      (record_Same x15141 x15154).bind fun rv15166 =>
      some (!((rv15104 == 0) == rv15166))).bind fun c15167 =>
    (if c15167 = true then
      some (Sum.inr (Sum.inr false))
    else
      (ix rv40.1 sv4882).bind fun x15221 =>
      (ix rv40.1 sv12929).bind fun x15234 =>
      (record_Better x15221 x15234).bind fun rv15246 =>
      (ix rv40.1 sv12929).bind fun x15249 =>
      (ix rv40.1 sv4882).bind fun x15262 =>
      (record_Better x15249 x15262).bind fun rv15274 =>
      (if (((rv15246 && rv15274) || (((!rv15246) && (!rv15274)) && (rv15104 != 0))) || ((rv15104 == 0) && rv15246)) = true then
        some (Sum.inr (Sum.inr false))
      else
        whileM (law14_RecordOrder_l41 rv40 sv4882 sv12929 rv15104 rv15246) (0)))
  else
    Option.map Sum.inr (some (Sum.inl (w64 (sv4882 + 1)))))
noncomputable def law14_RecordOrder_l22 (rv40 : ((List Record) × Dice)) (sv4882 : Int) : Option (Int ⊕ Bool) :=
  (if (decide (sv4882 < (rv40.1.length : Int))) = true then
    whileM (law14_RecordOrder_l37 rv40 sv4882) (0)
  else
    Option.map Sum.inr ((law14_sane).bind fun rv17178 =>
    some rv17178))
noncomputable def law14_RecordOrder (t1 : (List Int)) : Option Bool :=
  (made_Light t1).bind fun rv6 =>
  (if (!rv6) = true then
    (law14_sane).bind fun rv22 =>
    some rv22
  else
    (made_Roll t1).bind fun rv29 =>
    (made_Dice_Records rv29 4).bind fun rv40 =>
    whileM (law14_RecordOrder_l22 rv40) (0))

-- (*seismonet/seismonetmade.Dice).OddRecord
noncomputable def made_Dice_OddRecord_j1 (r6 : Record) (x438 : (List Int)) (x439 : Int) (x440 : ByteArray) (x441 : Int) (x442 : Int) (x443 : Int) (x444 : Int) (x445 : Int) (x446 : Int) (x447 : Int) (x448 : (List Int)) : Option (Record × Dice) :=
  some ((⟨(⟨r6.Source.Network, x440, r6.Source.Location, r6.Source.Channel⟩ : SourceID), x441, x442, (⟨x443, x444⟩ : Rate), x445, x446, x447, x448⟩ : Record), (⟨x438, x439⟩ : Dice))
noncomputable def made_Dice_OddRecord_j2 (r6 : Record) (x633 : (List Int)) (x634 : Int) (x635 : Int) (x636 : Int) (x637 : Int) (x638 : Int) (x639 : Int) (x640 : Int) (x641 : Int) (x642 : (List Int)) : Option (Record × Dice) :=
  made_Dice_OddRecord_j1 r6 x633 x634 r6.Source.Station x635 x636 x637 x638 x639 x640 x641 x642
noncomputable def made_Dice_OddRecord_j3 (r6 : Record) (x811 : (List Int)) (x812 : Int) (x813 : Int) (x814 : Int) (x815 : Int) (x816 : Int) (x817 : Int) (x818 : Int) (x819 : (List Int)) : Option (Record × Dice) :=
  made_Dice_OddRecord_j2 r6 x811 x812 r6.Start x813 x814 x815 x816 x817 x818 x819
noncomputable def made_Dice_OddRecord_j4 (r6 : Record) (x960 : (List Int)) (x961 : Int) (x962 : Int) (x963 : Int) (x964 : Int) (x965 : Int) (x966 : Int) (x967 : (List Int)) : Option (Record × Dice) :=
  made_Dice_OddRecord_j3 r6 x960 x961 r6.First x962 x963 x964 x965 x966 x967
noncomputable def made_Dice_OddRecord_j5 (r6 : Record) (x1082 : (List Int)) (x1083 : Int) (x1084 : Int) (x1085 : Int) (x1086 : Int) (x1087 : (List Int)) : Option (Record × Dice) :=
  made_Dice_OddRecord_j4 r6 x1082 x1083 r6.Rate.Num r6.Rate.Den x1084 x1085 x1086 x1087
noncomputable def made_Dice_OddRecord_j6 (r6 : Record) (x1177 : (List Int)) (x1178 : Int) (x1179 : Int) (x1180 : Int) (x1181 : (List Int)) : Option (Record × Dice) :=
  made_Dice_OddRecord_j5 r6 x1177 x1178 r6.Error x1179 x1180 x1181
noncomputable def made_Dice_OddRecord_j7 (r6 : Record) (x1247 : (List Int)) (x1248 : Int) (x1249 : Int) (x1250 : (List Int)) : Option (Record × Dice) :=
  made_Dice_OddRecord_j6 r6 x1247 x1248 r6.Run x1249 x1250
noncomputable def made_Dice_OddRecord_j8 (r6 : Record) (x1293 : (List Int)) (x1294 : Int) (x1295 : (List Int)) : Option (Record × Dice) :=
  made_Dice_OddRecord_j7 r6 x1293 x1294 r6.Seq x1295
noncomputable def made_Dice_OddRecord_j9 (r6 : Record) (rv18 : (Int × Dice)) (x1335 : (List Int)) : Option (Record × Dice) :=
  made_Dice_OddRecord_j8 r6 rv18.2.L rv18.2.At x1335
noncomputable def made_Dice_OddRecord (d1 : Dice) (r6 : Record) : Option (Record × Dice) :=
  (appM 8 ([] : List Int) r6.Samples).bind fun l13 =>
  (made_Dice_Next d1 10).bind fun rv18 =>
  (if (rv18.1 == 0) = true then
    made_Dice_OddRecord_j1 r6 rv18.2.L rv18.2.At (⟨#[]⟩ : ByteArray) r6.Start r6.First r6.Rate.Num r6.Rate.Den r6.Error r6.Run r6.Seq l13
  else
    (if (rv18.1 == 1) = true then
      (made_Dice_Pick rv18.2 ([(-1), 0, 9007199254740992, 9007199254740993] : List Int)).bind fun rv647 =>
      made_Dice_OddRecord_j2 r6 rv647.2.L rv647.2.At rv647.1 r6.First r6.Rate.Num r6.Rate.Den r6.Error r6.Run r6.Seq l13
    else
      (if (rv18.1 == 2) = true then
        (made_Dice_Pick rv18.2 ([(-1), 16777213, 16777216] : List Int)).bind fun rv824 =>
        made_Dice_OddRecord_j3 r6 rv824.2.L rv824.2.At rv824.1 r6.Rate.Num r6.Rate.Den r6.Error r6.Run r6.Seq l13
      else
        (if (rv18.1 == 3) = true then
          (made_Dice_Pick rv18.2 ([0, 2, 4097] : List Int)).bind fun rv972 =>
          made_Dice_OddRecord_j4 r6 rv972.2.L rv972.2.At rv972.1 2 r6.Error r6.Run r6.Seq l13
        else
          (if (rv18.1 == 4) = true then
            (made_Dice_Pick rv18.2 ([(-1), 1099511627776, 1099511627777] : List Int)).bind fun rv1092 =>
            made_Dice_OddRecord_j5 r6 rv1092.2.L rv1092.2.At rv1092.1 r6.Run r6.Seq l13
          else
            (if (rv18.1 == 5) = true then
              (made_Dice_Pick rv18.2 ([(-1), 65535, 65536] : List Int)).bind fun rv1186 =>
              made_Dice_OddRecord_j6 r6 rv1186.2.L rv1186.2.At rv1186.1 r6.Seq l13
            else
              (if (rv18.1 == 6) = true then
                (made_Dice_Pick rv18.2 ([(-1), 1073741824, 1073741825] : List Int)).bind fun rv1255 =>
                made_Dice_OddRecord_j7 r6 rv1255.2.L rv1255.2.At rv1255.1 l13
              else
                (if (rv18.1 == 7) = true then
                  (made_Dice_Pick rv18.2 ([1073741823, 1073741824, (-1073741824)] : List Int)).bind fun rv1300 =>
                  (appM 8 l13 ([rv1300.1] : List Int)).bind fun l1307 =>
                  made_Dice_OddRecord_j8 r6 rv1300.2.L rv1300.2.At l1307
                else
                  (if (rv18.1 == 8) = true then
                    made_Dice_OddRecord_j9 r6 rv18 ([] : List Int)
                  else
                    made_Dice_OddRecord_j9 r6 rv18 l13)))))))))

-- seismonet/seismonetref14.Sub
noncomputable def ref14_Sub (r1 : Record) (from5 : Int) (to6 : Int) : Option (Record × Int) :=
  (ref14_Valid r1).bind fun rv10 =>
  (if (!rv10) = true then
    some ((⟨(⟨ByteArray.empty, ByteArray.empty, ByteArray.empty, ByteArray.empty⟩ : SourceID), 0, 0, (⟨0, 0⟩ : Rate), 0, 0, 0, ([] : List Int)⟩ : Record), 1)
  else
    (if (((decide (from5 < 0)) || (decide (to6 ≤ from5))) || (decide ((r1.Samples.length : Int) < to6))) = true then
      some ((⟨(⟨ByteArray.empty, ByteArray.empty, ByteArray.empty, ByteArray.empty⟩ : SourceID), 0, 0, (⟨0, 0⟩ : Rate), 0, 0, 0, ([] : List Int)⟩ : Record), 2)
    else
      (subM r1.Samples from5 to6).bind fun l28 =>
      (appM 8 ([] : List Int) l28).bind fun l30 =>
      some ((⟨r1.Source, r1.Start, (w64 (r1.First + from5)), r1.Rate, r1.Error, r1.Run, r1.Seq, l30⟩ : Record), 0)))

-- seismonet/seismonetref05.Same
noncomputable def ref05_Same_l2 (a1 : (List Int)) (b5 : (List Int)) (sv109 : Int) : Option (Int ⊕ Bool) :=
  (if (decide (sv109 < (a1.length : Int))) = true then
    (ix a1 sv109).bind fun x241 =>
    (ix b5 sv109).bind fun x254 =>
    (if (x241 != x254) = true then
      some (Sum.inr false)
    else
      (some (w64 (sv109 + 1))).bind fun i270 =>
      some (Sum.inl i270))
  else
    Option.map Sum.inr (some true))
noncomputable def ref05_Same (a1 : (List Int)) (b5 : (List Int)) : Option Bool :=
  (if ((a1.length : Int) != (b5.length : Int)) = true then
    some false
  else
    whileM (ref05_Same_l2 a1 b5) (0))

-- seismonet/seismonetref14.Same
noncomputable def ref14_Same (a1 : Record) (b5 : Record) : Option Bool :=
  ((if ((((((((a1.Source.Network == b5.Source.Network) && ((a1.Source.Station == b5.Source.Station) && ((a1.Source.Location == b5.Source.Location) && ((a1.Source.Channel == b5.Source.Channel) && true)))) && (a1.Start == b5.Start)) && (a1.First == b5.First)) && ((a1.Rate.Num == b5.Rate.Num) && ((a1.Rate.Den == b5.Rate.Den) && true))) && (a1.Error == b5.Error)) && (a1.Run == b5.Run)) && (a1.Seq == b5.Seq)) = true then
    (ref05_Same a1.Samples b5.Samples).bind fun rv28 =>
    some rv28
  else
    some false)).bind fun c25 =>
  some c25

-- seismonet/seismonetref14.part
noncomputable def ref14_part_j2 (sv19 : (Int × Int × Int)) (first326 : Int) (last327 : Int) : Option ((Int × Int × Int) ⊕ (Int × Int)) :=
  (some (w64 (sv19.2.2 + 1))).bind fun i329 =>
  some (Sum.inl (first326, last327, i329))
noncomputable def ref14_part_j3 (sv19 : (Int × Int × Int)) (first333 : Int) : Option ((Int × Int × Int) ⊕ (Int × Int)) :=
  ref14_part_j2 sv19 first333 sv19.2.2
noncomputable def ref14_part_j1 (sv19 : (Int × Int × Int)) (inv320 : Bool) : Option ((Int × Int × Int) ⊕ (Int × Int)) :=
  (if inv320 = true then
    (if (decide (sv19.1 < 0)) = true then
      ref14_part_j3 sv19 sv19.2.2
    else
      ref14_part_j3 sv19 sv19.1)
  else
    ref14_part_j2 sv19 sv19.1 sv19.2.1)
noncomputable def ref14_part_l1 (r1 : Record) (from5 : Int) (to6 : Int) (whole7 : Bool) (sv19 : (Int × Int × Int)) : Option ((Int × Int × Int) ⊕ (Int × Int)) :=
  (if (decide (sv19.2.2 < (r1.Samples.length : Int))) = true then
    (ref14_Time r1 sv19.2.2).bind fun rv271 =>
    ((if (decide (from5 ≤ rv271)) = true then
      (ref14_Time r1 sv19.2.2).bind fun rv288 =>
      some (decide (rv288 < to6))
    else
      some false)).bind fun c285 =>
    (if whole7 = true then
      (ref14_Time r1 sv19.2.2).bind fun rv337 =>
      ((if (decide (from5 ≤ rv337)) = true then
        (ref14_Time r1 (w64 (sv19.2.2 + 1))).bind fun rv354 =>
        some (decide (rv354 ≤ to6))
      else
        some false)).bind fun c351 =>
      ref14_part_j1 sv19 c351
    else
      ref14_part_j1 sv19 c285)
  else
    some (Sum.inr (sv19.1, sv19.2.1)))
noncomputable def ref14_part (r1 : Record) (from5 : Int) (to6 : Int) (whole7 : Bool) : Option (Record × Bool × Int) :=
  (ref14_Valid r1).bind fun rv11 =>
  (if (!rv11) = true then
    some ((⟨(⟨ByteArray.empty, ByteArray.empty, ByteArray.empty, ByteArray.empty⟩ : SourceID), 0, 0, (⟨0, 0⟩ : Rate), 0, 0, 0, ([] : List Int)⟩ : Record), false, 1)
  else
    (whileM (ref14_part_l1 r1 from5 to6 whole7) ((-1), (-1), 0)).bind fun e208 =>
    (if (decide (e208.1 < 0)) = true then
      some ((⟨(⟨ByteArray.empty, ByteArray.empty, ByteArray.empty, ByteArray.empty⟩ : SourceID), 0, 0, (⟨0, 0⟩ : Rate), 0, 0, 0, ([] : List Int)⟩ : Record), false, 0)
    else
      (ref14_Sub r1 e208.1 (w64 (e208.2 + 1))).bind fun rv364 =>
      some (rv364.1, true, 0)))

-- seismonet/seismonetref14.Cut
noncomputable def ref14_Cut (r1 : Record) (from5 : Int) (to6 : Int) : Option (Record × Bool × Int) :=
  (ref14_part r1 from5 to6 false).bind fun rv10 =>
  some (rv10.1, rv10.2.1, rv10.2.2)

-- seismonet/seismonetref14.Inside
noncomputable def ref14_Inside (r1 : Record) (from5 : Int) (to6 : Int) : Option (Record × Bool × Int) :=
  (ref14_part r1 from5 to6 true).bind fun rv10 =>
  some (rv10.1, rv10.2.1, rv10.2.2)

-- seismonet/seismonetref03.compare
noncomputable def ref03_compare (a1 : ByteArray) (b2 : ByteArray) : Option Int :=
  (if (Op.bytesLess a1.toList b2.toList) = true then
    some (-1)
  else
    (if (!((Op.bytesLess a1.toList b2.toList) || (a1.toList == b2.toList))) = true then
      some 1
    else
      some 0))

-- seismonet/seismonetref03.Compare
noncomputable def ref03_Compare_l2 (rv6 : Int) (rv8 : Int) (rv10 : Int) (rv12 : Int) (sv51 : Int) : Option (Int ⊕ Int) :=
  (if (decide (sv51 < 4)) = true then
    (ix ([rv6, rv8, rv10, rv12] : List Int) sv51).bind fun x76 =>
    (if (x76 != 0) = true then
      some (Sum.inr x76)
    else
      some (Sum.inl (w64 (sv51 + 1))))
  else
    Option.map Sum.inr (some 0))
noncomputable def ref03_Compare (a1 : SourceID) (b2 : SourceID) : Option Int :=
  (ref03_compare a1.Network b2.Network).bind fun rv6 =>
  (ref03_compare a1.Station b2.Station).bind fun rv8 =>
  (ref03_compare a1.Location b2.Location).bind fun rv10 =>
  (ref03_compare a1.Channel b2.Channel).bind fun rv12 =>
  whileM (ref03_Compare_l2 rv6 rv8 rv10 rv12) (0)

-- seismonet/seismonetref14.number
noncomputable def ref14_number (a1 : Int) (b2 : Int) : Option Int :=
  (if (decide (a1 < b2)) = true then
    some (-1)
  else
    (if (decide (b2 < a1)) = true then
      some 1
    else
      some 0))

-- seismonet/seismonetref14.Compare
noncomputable def ref14_Compare_l4 (a1 : Record) (b5 : Record) (sv266 : Int) : Option (Int ⊕ Int) :=
  (if (decide (sv266 < (a1.Samples.length : Int))) = true then
    (ix a1.Samples sv266).bind fun x406 =>
    (ix b5.Samples sv266).bind fun x419 =>
    (ref14_number x406 x419).bind fun rv431 =>
    (if (rv431 != 0) = true then
      some (Sum.inr rv431)
    else
      (some (w64 (sv266 + 1))).bind fun i442 =>
      some (Sum.inl i442))
  else
    Option.map Sum.inr (some 0))
noncomputable def ref14_Compare_l2 (a1 : Record) (b5 : Record) (rv46 : Int) (rv48 : Int) (rv50 : Int) (rv52 : Int) (rv54 : Int) (rv56 : Int) (rv58 : Int) (rv60 : Int) (rv62 : Int) (rv64 : Int) (sv133 : Int) : Option (Int ⊕ Int) :=
  (if (decide (sv133 < 10)) = true then
    (ix ([rv46, rv48, rv50, rv52, rv54, rv56, rv58, rv60, rv62, rv64] : List Int) sv133).bind fun x158 =>
    (if (x158 != 0) = true then
      some (Sum.inr x158)
    else
      some (Sum.inl (w64 (sv133 + 1))))
  else
    Option.map Sum.inr (whileM (ref14_Compare_l4 a1 b5) (0)))
noncomputable def ref14_Compare_j2 (a1 : Record) (b5 : Record) (x27 : Int) (y44 : Int) : Option Int :=
  (ref03_Compare a1.Source b5.Source).bind fun rv46 =>
  (ref14_number x27 y44).bind fun rv48 =>
  (ref14_number a1.Start b5.Start).bind fun rv50 =>
  (ref14_number a1.First b5.First).bind fun rv52 =>
  (ref14_number a1.Rate.Num b5.Rate.Num).bind fun rv54 =>
  (ref14_number a1.Rate.Den b5.Rate.Den).bind fun rv56 =>
  (ref14_number a1.Error b5.Error).bind fun rv58 =>
  (ref14_number a1.Run b5.Run).bind fun rv60 =>
  (ref14_number a1.Seq b5.Seq).bind fun rv62 =>
  (ref14_number (a1.Samples.length : Int) (b5.Samples.length : Int)).bind fun rv64 =>
  whileM (ref14_Compare_l2 a1 b5 rv46 rv48 rv50 rv52 rv54 rv56 rv58 rv60 rv62 rv64) (0)
noncomputable def ref14_Compare_j1 (a1 : Record) (b5 : Record) (x27 : Int) : Option Int :=
  (ref14_Valid b5).bind fun rv29 =>
  (if rv29 = true then
    (ref14_Time b5 0).bind fun rv449 =>
    ref14_Compare_j2 a1 b5 x27 rv449
  else
    ref14_Compare_j2 a1 b5 x27 0)
noncomputable def ref14_Compare (a1 : Record) (b5 : Record) : Option Int :=
  (ref14_Valid a1).bind fun rv12 =>
  (if rv12 = true then
    (ref14_Time a1 0).bind fun rv457 =>
    ref14_Compare_j1 a1 b5 rv457
  else
    ref14_Compare_j1 a1 b5 0)

-- seismonet/seismonetref14.Better
noncomputable def ref14_Better_l2 (a1 : Record) (b5 : Record) (rv12 : Int) (rv14 : Int) (rv16 : Int) (sv50 : Int) : Option (Int ⊕ Bool) :=
  (if (decide (sv50 < 3)) = true then
    (ix ([rv12, rv14, rv16] : List Int) sv50).bind fun x75 =>
    (if (x75 != 0) = true then
      some (Sum.inr (decide (x75 < 0)))
    else
      some (Sum.inl (w64 (sv50 + 1))))
  else
    Option.map Sum.inr ((ref14_Compare a1 b5).bind fun rv80 =>
    some (decide (rv80 < 0))))
noncomputable def ref14_Better (a1 : Record) (b5 : Record) : Option Bool :=
  (ref14_number a1.Error b5.Error).bind fun rv12 =>
  (ref14_number b5.Run a1.Run).bind fun rv14 =>
  (ref14_number b5.Seq a1.Seq).bind fun rv16 =>
  whileM (ref14_Better_l2 a1 b5 rv12 rv14 rv16) (0)

-- seismonet/seismonetref14.Follows
noncomputable def ref14_Follows (a1 : Record) (b5 : Record) (tolerance9 : Int) : Option Bool :=
  (ref14_Valid a1).bind fun rv13 =>
  ((if (!rv13) = true then
    some true
  else
    (ref14_Valid b5).bind fun rv30 =>
    some (!rv30))).bind fun c27 =>
  ((if ((c27 || (!((a1.Source.Network == b5.Source.Network) && ((a1.Source.Station == b5.Source.Station) && ((a1.Source.Location == b5.Source.Location) && ((a1.Source.Channel == b5.Source.Channel) && true)))))) || (!((a1.Rate.Num == b5.Rate.Num) && ((a1.Rate.Den == b5.Rate.Den) && true)))) = true then
    some true
  else
    (ref01_In tolerance9 0 9007199254740992).bind fun rv49 =>
    some (!rv49))).bind fun c46 =>
  (if c46 = true then
    some false
  else
    (ref14_Time b5 0).bind fun rv58 =>
    (ref14_Time a1 (a1.Samples.length : Int)).bind fun rv60 =>
    (some (w64 (rv58 - rv60))).bind fun d62 =>
    (ref01_In d62 (w64 (0 - tolerance9)) tolerance9).bind fun rv75 =>
    some rv75)

-- seismonet/seismonetlaw14.RecordExact
noncomputable def law14_RecordExact_l29 (k11 : Int) (sv2325 : ((List Int) × Int × Int)) (x5159 : Record) (rv5845 : (Int × Dice)) (l6680 : (List Record)) (sv6795 : Int) : Option (Int ⊕ (((List Int) × Int × Int) ⊕ Bool)) :=
  (if (decide (sv6795 < (l6680.length : Int))) = true then
    (ix l6680 sv6795).bind fun x6949 =>
    (record_Compare x5159 x6949).bind fun rv6962 =>
    (ref14_Compare x5159 x6949).bind fun rv6964 =>
    (if (rv6962 != rv6964) = true then
      some true
    else
      (record_Better x5159 x6949).bind fun rv6966 =>
      (ref14_Better x5159 x6949).bind fun rv6968 =>
      some (!(rv6966 == rv6968))).bind fun c6969 =>
    (if c6969 = true then
      some true
    else
      (record_Same x5159 x6949).bind fun rv6971 =>
      (ref14_Same x5159 x6949).bind fun rv6973 =>
      some (!(rv6971 == rv6973))).bind fun c6974 =>
    (if c6974 = true then
      some true
    else
      (record_Follows x5159 x6949 k11).bind fun rv6976 =>
      (ref14_Follows x5159 x6949 k11).bind fun rv6978 =>
      some (!(rv6976 == rv6978))).bind fun c6979 =>
    (if c6979 = true then
      some (Sum.inr (Sum.inr false))
    else
      some (Sum.inl (w64 (sv6795 + 1))))
  else
    Option.map Sum.inr (some (Sum.inl (rv5845.2.L, rv5845.2.At, (w64 (sv2325.2.2 + 1))))))
noncomputable def law14_RecordExact_l27 (raw5 : Record) (i9 : Int) (j10 : Int) (k11 : Int) (rv60 : (Record × Dice)) (x166 : ByteArray) (x167 : ByteArray) (x168 : ByteArray) (x169 : ByteArray) (x170 : Int) (x171 : Int) (x172 : Int) (x173 : Int) (x174 : Int) (x175 : Int) (x176 : Int) (x177 : (List Int)) (sv2325 : ((List Int) × Int × Int)) (x5159 : Record) (rv5172 : (Span × Int)) (rv5840 : (Int × Dice)) (rv5845 : (Int × Dice)) (sv6167 : Int) : Option (Int ⊕ (((List Int) × Int × Int) ⊕ Bool)) :=
  (if (decide (sv6167 < (([(⟨i9, j10⟩ : (Arr2 Int)), (⟨(w64 (1000000000000 + (w64 (500000 * rv5840.1)))), (w64 (1000000000000 + (w64 (500000 * rv5845.1))))⟩ : (Arr2 Int)), (⟨rv5172.1.From, rv5172.1.To⟩ : (Arr2 Int))] : List (Arr2 Int)).length : Int))) = true then
    (ix ([(⟨i9, j10⟩ : (Arr2 Int)), (⟨(w64 (1000000000000 + (w64 (500000 * rv5840.1)))), (w64 (1000000000000 + (w64 (500000 * rv5845.1))))⟩ : (Arr2 Int)), (⟨rv5172.1.From, rv5172.1.To⟩ : (Arr2 Int))] : List (Arr2 Int)) sv6167).bind fun x6577 =>
    (record_Cut x5159 x6577.e0 x6577.e1).bind fun rv6586 =>
    (ref14_Cut x5159 x6577.e0 x6577.e1).bind fun rv6598 =>
    (record_Inside x5159 x6577.e0 x6577.e1).bind fun rv6610 =>
    (ref14_Inside x5159 x6577.e0 x6577.e1).bind fun rv6622 =>
    ((if ((!(rv6586.2.1 == rv6598.2.1)) || (rv6586.2.2 != rv6598.2.2)) = true then
      some true
    else
      (ref14_Same rv6586.1 rv6598.1).bind fun rv6645 =>
      some (!rv6645))).bind fun c6642 =>
    ((if ((c6642 || (!(rv6610.2.1 == rv6622.2.1))) || (rv6610.2.2 != rv6622.2.2)) = true then
      some true
    else
      (ref14_Same rv6610.1 rv6622.1).bind fun rv6664 =>
      some (!rv6664))).bind fun c6661 =>
    (if c6661 = true then
      some (Sum.inr (Sum.inr false))
    else
      some (Sum.inl (w64 (sv6167 + 1))))
  else
    Option.map Sum.inr ((some ([rv60.1, (⟨(⟨x166, x167, x168, x169⟩ : SourceID), x170, x171, (⟨x172, x173⟩ : Rate), x174, x175, x176, x177⟩ : Record), raw5] : List Record)).bind fun l6680 =>
    whileM (law14_RecordExact_l29 k11 sv2325 x5159 rv5845 l6680) (0)))
noncomputable def law14_RecordExact_l25 (raw5 : Record) (i9 : Int) (j10 : Int) (k11 : Int) (rv60 : (Record × Dice)) (x166 : ByteArray) (x167 : ByteArray) (x168 : ByteArray) (x169 : ByteArray) (x170 : Int) (x171 : Int) (x172 : Int) (x173 : Int) (x174 : Int) (x175 : Int) (x176 : Int) (x177 : (List Int)) (sv2325 : ((List Int) × Int × Int)) (x5159 : Record) (rv5172 : (Span × Int)) (rv5234 : (Int × Dice)) (rv5239 : (Int × Dice)) (sv5474 : Int) : Option (Int ⊕ (((List Int) × Int × Int) ⊕ Bool)) :=
  (if (decide (sv5474 < (([(⟨i9, j10⟩ : (Arr2 Int)), (⟨(w64 (rv5234.1 - 1)), rv5239.1⟩ : (Arr2 Int)), (⟨0, (x5159.Samples.length : Int)⟩ : (Arr2 Int))] : List (Arr2 Int)).length : Int))) = true then
    (ix ([(⟨i9, j10⟩ : (Arr2 Int)), (⟨(w64 (rv5234.1 - 1)), rv5239.1⟩ : (Arr2 Int)), (⟨0, (x5159.Samples.length : Int)⟩ : (Arr2 Int))] : List (Arr2 Int)) sv5474).bind fun x5768 =>
    (record_At x5159 x5768.e0).bind fun rv5777 =>
    (ref14_At x5159 x5768.e0).bind fun rv5784 =>
    (record_Sub x5159 x5768.e0 x5768.e1).bind fun rv5791 =>
    (ref14_Sub x5159 x5768.e0 x5768.e1).bind fun rv5803 =>
    ((if (((rv5777.1 != rv5784.1) || (rv5777.2 != rv5784.2)) || (rv5791.2 != rv5803.2)) = true then
      some true
    else
      (ref14_Same rv5791.1 rv5803.1).bind fun rv5827 =>
      some (!rv5827))).bind fun c5824 =>
    (if c5824 = true then
      some (Sum.inr (Sum.inr false))
    else
      some (Sum.inl (w64 (sv5474 + 1))))
  else
    Option.map Sum.inr ((made_Dice_Next rv5239.2 30).bind fun rv5840 =>
    (made_Dice_Next rv5840.2 40).bind fun rv5845 =>
    whileM (law14_RecordExact_l27 raw5 i9 j10 k11 rv60 x166 x167 x168 x169 x170 x171 x172 x173 x174 x175 x176 x177 sv2325 x5159 rv5172 rv5840 rv5845) (0)))
noncomputable def law14_RecordExact_l31 (rv60 : (Record × Dice)) (x166 : ByteArray) (x167 : ByteArray) (x168 : ByteArray) (x169 : ByteArray) (x170 : Int) (x171 : Int) (x172 : Int) (x173 : Int) (x174 : Int) (x175 : Int) (x176 : Int) (x177 : (List Int)) (sv7310 : Int) : Option (Int ⊕ Bool) :=
  (if (decide (sv7310 < (([0, 250000, 3000000, 9007199254740992] : List Int).length : Int))) = true then
    (ix ([0, 250000, 3000000, 9007199254740992] : List Int) sv7310).bind fun x7404 =>
    (record_Follows rv60.1 (⟨(⟨x166, x167, x168, x169⟩ : SourceID), x170, x171, (⟨x172, x173⟩ : Rate), x174, x175, x176, x177⟩ : Record) x7404).bind fun rv7412 =>
    (ref14_Follows rv60.1 (⟨(⟨x166, x167, x168, x169⟩ : SourceID), x170, x171, (⟨x172, x173⟩ : Rate), x174, x175, x176, x177⟩ : Record) x7404).bind fun rv7414 =>
    (if (!(rv7412 == rv7414)) = true then
      some true
    else
      (record_Follows (⟨(⟨x166, x167, x168, x169⟩ : SourceID), x170, x171, (⟨x172, x173⟩ : Rate), x174, x175, x176, x177⟩ : Record) rv60.1 x7404).bind fun rv7416 =>
      (ref14_Follows (⟨(⟨x166, x167, x168, x169⟩ : SourceID), x170, x171, (⟨x172, x173⟩ : Rate), x174, x175, x176, x177⟩ : Record) rv60.1 x7404).bind fun rv7418 =>
      some (!(rv7416 == rv7418))).bind fun c7419 =>
    (if c7419 = true then
      some (Sum.inr false)
    else
      some (Sum.inl (w64 (sv7310 + 1))))
  else
    Option.map Sum.inr ((law14_sane).bind fun rv7462 =>
    some rv7462))
noncomputable def law14_RecordExact_l17 (raw5 : Record) (i9 : Int) (j10 : Int) (k11 : Int) (rv60 : (Record × Dice)) (x166 : ByteArray) (x167 : ByteArray) (x168 : ByteArray) (x169 : ByteArray) (x170 : Int) (x171 : Int) (x172 : Int) (x173 : Int) (x174 : Int) (x175 : Int) (x176 : Int) (x177 : (List Int)) (l190 : (List Record)) (sv2325 : ((List Int) × Int × Int)) : Option (((List Int) × Int × Int) ⊕ Bool) :=
  (if (decide (sv2325.2.2 < (l190.length : Int))) = true then
    (ix l190 sv2325.2.2).bind fun x5159 =>
    (record_Span x5159).bind fun rv5172 =>
    (ref14_Span x5159).bind fun rv5180 =>
    (if ((!((rv5172.1.From == rv5180.1.From) && ((rv5172.1.To == rv5180.1.To) && true))) || (rv5172.2 != rv5180.2)) = true then
      some true
    else
      (record_Valid x5159).bind fun rv5188 =>
      (ref14_Valid x5159).bind fun rv5190 =>
      some (!(rv5188 == rv5190))).bind fun c5191 =>
    (if c5191 = true then
      some (Sum.inr false)
    else
      (made_Dice_Next (⟨sv2325.1, sv2325.2.1⟩ : Dice) 10).bind fun rv5234 =>
      (made_Dice_Next rv5234.2 10).bind fun rv5239 =>
      whileM (law14_RecordExact_l25 raw5 i9 j10 k11 rv60 x166 x167 x168 x169 x170 x171 x172 x173 x174 x175 x176 x177 sv2325 x5159 rv5172 rv5234 rv5239) (0))
  else
    Option.map Sum.inr (whileM (law14_RecordExact_l31 rv60 x166 x167 x168 x169 x170 x171 x172 x173 x174 x175 x176 x177) (0)))
noncomputable def law14_RecordExact_j1 (raw5 : Record) (i9 : Int) (j10 : Int) (k11 : Int) (rv60 : (Record × Dice)) (x164 : (List Int)) (x165 : Int) (x166 : ByteArray) (x167 : ByteArray) (x168 : ByteArray) (x169 : ByteArray) (x170 : Int) (x171 : Int) (x172 : Int) (x173 : Int) (x174 : Int) (x175 : Int) (x176 : Int) (x177 : (List Int)) : Option Bool :=
  (made_Dice_OddRecord (⟨x164, x165⟩ : Dice) rv60.1).bind fun rv179 =>
  (some ([rv60.1, (⟨(⟨x166, x167, x168, x169⟩ : SourceID), x170, x171, (⟨x172, x173⟩ : Rate), x174, x175, x176, x177⟩ : Record), rv179.1, raw5] : List Record)).bind fun l190 =>
  whileM (law14_RecordExact_l17 raw5 i9 j10 k11 rv60 x166 x167 x168 x169 x170 x171 x172 x173 x174 x175 x176 x177 l190) (rv179.2.L, rv179.2.At, 0)
noncomputable def law14_RecordExact (t1 : (List Int)) (raw5 : Record) (i9 : Int) (j10 : Int) (k11 : Int) : Option Bool :=
  (made_Light t1).bind fun rv14 =>
  (if ((!rv14) || (decide (100 < (raw5.Samples.length : Int)))) = true then
    (law14_sane).bind fun rv31 =>
    some rv31
  else
    (made_Roll t1).bind fun rv38 =>
    (made_Dice_Source rv38).bind fun rv49 =>
    (made_Dice_Record rv49.2 rv49.1 8).bind fun rv60 =>
    (made_Dice_Record rv60.2 rv49.1 8).bind fun rv69 =>
    (made_Dice_Next rv69.2 4).bind fun rv111 =>
    (if (rv111.1 == 0) = true then
      (appM 8 ([] : List Int) rv60.1.Samples).bind fun l7474 =>
      (made_Dice_Next rv111.2 (l7474.length : Int)).bind fun rv7479 =>
      (ix l7474 rv7479.1).bind fun x7485 =>
      (ix l7474 rv7479.1).bind fun x7498 =>
      (setM l7474 rv7479.1 (w64 (x7485 + 1))).bind fun l7506 =>
      law14_RecordExact_j1 raw5 i9 j10 k11 rv60 rv7479.2.L rv7479.2.At rv60.1.Source.Network rv60.1.Source.Station rv60.1.Source.Location rv60.1.Source.Channel rv60.1.Start rv60.1.First rv60.1.Rate.Num rv60.1.Rate.Den rv60.1.Error rv60.1.Run rv60.1.Seq l7506
    else
      law14_RecordExact_j1 raw5 i9 j10 k11 rv60 rv111.2.L rv111.2.At rv69.1.Source.Network rv69.1.Source.Station rv69.1.Source.Location rv69.1.Source.Channel rv69.1.Start rv69.1.First rv69.1.Rate.Num rv69.1.Rate.Den rv69.1.Error rv69.1.Run rv69.1.Seq rv69.1.Samples))

end Go.Proofs.Ytdifjkamipeibaa.Sh

/- Each Go function as a plain program over lists and numbers (none: a panic, or no end). Printed by a program of ours out of the translation. -/
import Derived.Test.YtdifjkamipeibaaShData
namespace Go.Proofs.Ytdifjkamipeibaa.Sh
open Go
set_option linter.unusedVariables false

-- seismonet/seismonetmade.Light
noncomputable def made_Light (l1 : (List Int)) : Option Bool :=
  some (decide ((l1.length : Int) ≤ 500))

-- seismonet/source.plain
noncomputable def source_plain (c1 : Int) : Option Bool :=
  some (((decide (65 ≤ c1)) && (decide (c1 ≤ 90))) || ((decide (48 ≤ c1)) && (decide (c1 ≤ 57))))

-- seismonet/source.code
noncomputable def source_code_l2 (s1 : ByteArray) (low2 : Int) (high3 : Int) (sv39 : Int) : Option (Int ⊕ Bool) :=
  (if (decide (sv39 < (s1.size : Int))) = true then
    (byteAt s1 sv39).bind fun c88 =>
    (source_plain c88).bind fun rv90 =>
    (if (!rv90) = true then
      some (Sum.inr false)
    else
      some (Sum.inl (w64 (sv39 + 1))))
  else
    Option.map Sum.inr (some ((decide (low2 ≤ (s1.size : Int))) && (decide ((s1.size : Int) ≤ high3)))))
noncomputable def source_code (s1 : ByteArray) (low2 : Int) (high3 : Int) : Option Bool :=
  whileM (source_code_l2 s1 low2 high3) (0)

-- seismonet/source.Valid
noncomputable def source_Valid (s1 : SourceID) : Option Bool :=
  (source_code s1.Network 1 2).bind fun rv4 =>
  ((if rv4 = true then
    (source_code s1.Station 1 5).bind fun rv19 =>
    some rv19
  else
    some false)).bind fun c16 =>
  ((if c16 = true then
    (source_code s1.Location 0 2).bind fun rv34 =>
    some rv34
  else
    some false)).bind fun c31 =>
  ((if (c31 && ((s1.Location.size : Int) != 1)) = true then
    (source_code s1.Channel 3 3).bind fun rv50 =>
    some rv50
  else
    some false)).bind fun c47 =>
  some c47

-- seismonet/record.in
noncomputable def record_in (n1 : Int) (low2 : Int) (high3 : Int) : Option Bool :=
  some ((decide (low2 ≤ n1)) && (decide (n1 ≤ high3)))

-- seismonet/rate.in
noncomputable def rate_in (n1 : Int) (low2 : Int) (high3 : Int) : Option Bool :=
  some ((decide (low2 ≤ n1)) && (decide (n1 ≤ high3)))

-- seismonet/rate.gcd
noncomputable def rate_gcd_l1 (sv3 : (Int × Int)) : Option ((Int × Int) ⊕ Int) :=
  (if (sv3.2 != 0) = true then
    (remM sv3.1 sv3.2).bind fun rem29 =>
    some (Sum.inl (sv3.2, rem29))
  else
    some (Sum.inr sv3.1))
noncomputable def rate_gcd (a1 : Int) (b2 : Int) : Option Int :=
  (whileM (rate_gcd_l1) (a1, b2)).bind fun e21 =>
  some e21

-- seismonet/rate.Valid
noncomputable def rate_Valid (r1 : Rate) : Option Bool :=
  (rate_in r1.Num 1 4096).bind fun rv4 =>
  ((if rv4 = true then
    (rate_in r1.Den 1 4096).bind fun rv19 =>
    some rv19
  else
    some false)).bind fun c16 =>
  ((if c16 = true then
    (rate_gcd r1.Num r1.Den).bind fun rv34 =>
    some (rv34 == 1)
  else
    some false)).bind fun c31 =>
  some c31

-- seismonet/rate.micros
noncomputable def rate_micros (r1 : Rate) : Option Int :=
  (some (w64 (r1.Den * 1000000))).bind fun x4 =>
  some x4

-- seismonet/rate.after
noncomputable def rate_after (r1 : Rate) (k2 : Int) : Option Int :=
  (rate_micros r1).bind fun rv5 =>
  (quoM .i64 (w64 (k2 * rv5)) r1.Num).bind fun quo7 =>
  some quo7

-- seismonet/rate.Time
noncomputable def rate_Time (start1 : Int) (r2 : Rate) (k3 : Int) : Option (Int × Int) :=
  (rate_Valid r2).bind fun rv6 =>
  (if (!rv6) = true then
    some (0, 1)
  else
    (rate_in start1 0 9007199254740992).bind fun rv14 =>
    ((if (!rv14) = true then
      some true
    else
      (rate_in k3 0 16777216).bind fun rv29 =>
      some (!rv29))).bind fun c26 =>
    (if c26 = true then
      some (0, 2)
    else
      (rate_after r2 k3).bind fun rv37 =>
      (some (w64 (start1 + rv37))).bind fun x43 =>
      some (x43, 0)))

-- slices.IndexFunc[[]int,int]
noncomputable def slices_IndexFunc_Lint_int_l2 (s1 : (List Int)) (f5 : Int → Option Bool) (sv78 : Int) : Option (Int ⊕ Int) :=
  (if (decide (sv78 < (s1.length : Int))) = true then
    (ix s1 sv78).bind fun x172 =>
    (f5 x172).bind fun rv184 =>
    (if rv184 = true then
      some (Sum.inr sv78)
    else
      some (Sum.inl (w64 (sv78 + 1))))
  else
    Option.map Sum.inr (some (-1)))
noncomputable def slices_IndexFunc_Lint_int (s1 : (List Int)) (f5 : Int → Option Bool) : Option Int :=
  whileM (slices_IndexFunc_Lint_int_l2 s1 f5) (0)

-- slices.ContainsFunc[[]int,int]
noncomputable def slices_ContainsFunc_Lint_int (s1 : (List Int)) (f5 : Int → Option Bool) : Option Bool :=
  (slices_IndexFunc_Lint_int s1 f5).bind fun rv11 =>
  some (decide (0 ≤ rv11))

-- seismonet/record.Valid$1
noncomputable def record_Valid_fn1 (x1 : Int) : Option Bool :=
  (record_in x1 (-1073741823) 1073741823).bind fun rv3 =>
  some (!rv3)

-- seismonet/record.Valid
noncomputable def record_Valid (r1 : Record) : Option Bool :=
  (some (r1.Samples.length : Int)).bind fun n7 =>
  (source_Valid r1.Source).bind fun rv9 =>
  ((if (!rv9) = true then
    some true
  else
    (record_in n7 1 65536).bind fun rv24 =>
    some (!rv24))).bind fun c21 =>
  ((if c21 = true then
    some true
  else
    (record_in r1.First 0 (w64 (16777216 - n7))).bind fun rv39 =>
    some (!rv39))).bind fun c36 =>
  ((if c36 = true then
    some true
  else
    (record_in r1.Error 0 1099511627776).bind fun rv54 =>
    some (!rv54))).bind fun c51 =>
  ((if c51 = true then
    some true
  else
    (record_in r1.Run 0 65535).bind fun rv69 =>
    some (!rv69))).bind fun c66 =>
  ((if c66 = true then
    some true
  else
    (record_in r1.Seq 0 1073741824).bind fun rv84 =>
    some (!rv84))).bind fun c81 =>
  (if c81 = true then
    some false
  else
    (rate_Time r1.Start r1.Rate (w64 (r1.First + n7))).bind fun rv92 =>
    ((if ((rv92.2 == 0) && (decide (rv92.1 ≤ 9007199254740992))) = true then
      (slices_ContainsFunc_Lint_int r1.Samples record_Valid_fn1).bind fun rv108 =>
      some (!rv108)
    else
      some false)).bind fun c105 =>
    some c105)

-- seismonet/record.time
noncomputable def record_time (r1 : Record) (i5 : Int) : Option Int :=
  (rate_Time r1.Start r1.Rate (w64 (r1.First + i5))).bind fun rv8 =>
  some rv8.1

-- seismonet/record.Span
noncomputable def record_Span (r1 : Record) : Option (Span × Int) :=
  (record_Valid r1).bind fun rv8 =>
  (if (!rv8) = true then
    some ((⟨0, 0⟩ : Span), 1)
  else
    (record_time r1 0).bind fun rv16 =>
    (record_time r1 (r1.Samples.length : Int)).bind fun rv18 =>
    some ((⟨rv16, rv18⟩ : Span), 0))

-- slices.Clone[[]int,int]
noncomputable def slices_Clone_Lint_int (s1 : (List Int)) : Option (List Int) :=
  (appM 8 ([] : List Int) s1).bind fun l11 =>
  some l11

-- seismonet/record.sub
noncomputable def record_sub (r1 : Record) (from5 : Int) (to6 : Int) : Option Record :=
  (subM r1.Samples from5 to6).bind fun l14 =>
  (slices_Clone_Lint_int l14).bind fun rv16 =>
  some (⟨r1.Source, r1.Start, (w64 (r1.First + from5)), r1.Rate, r1.Error, r1.Run, r1.Seq, rv16⟩ : Record)

-- seismonet/record.Sub
noncomputable def record_Sub (r1 : Record) (from5 : Int) (to6 : Int) : Option (Record × Int) :=
  (record_Valid r1).bind fun rv10 =>
  (if (!rv10) = true then
    some ((⟨(⟨ByteArray.empty, ByteArray.empty, ByteArray.empty, ByteArray.empty⟩ : SourceID), 0, 0, (⟨0, 0⟩ : Rate), 0, 0, 0, ([] : List Int)⟩ : Record), 1)
  else
    (if (((decide (from5 < 0)) || (decide (to6 ≤ from5))) || (decide ((r1.Samples.length : Int) < to6))) = true then
      some ((⟨(⟨ByteArray.empty, ByteArray.empty, ByteArray.empty, ByteArray.empty⟩ : SourceID), 0, 0, (⟨0, 0⟩ : Rate), 0, 0, 0, ([] : List Int)⟩ : Record), 2)
    else
      (record_sub r1 from5 to6).bind fun rv22 =>
      some (rv22, 0)))

-- seismonet/record.At
noncomputable def record_At (r1 : Record) (i5 : Int) : Option (Int × Int) :=
  (record_Valid r1).bind fun rv8 =>
  (if (!rv8) = true then
    some (0, 1)
  else
    (record_in i5 0 (r1.Samples.length : Int)).bind fun rv16 =>
    (if (!rv16) = true then
      some (0, 2)
    else
      (record_time r1 i5).bind fun rv24 =>
      some (rv24, 0)))

-- seismonet/seismonetlaw14.sane
noncomputable def law14_sane : Option Bool :=
  (record_Span (⟨(⟨(⟨#[65]⟩ : ByteArray), (⟨#[66]⟩ : ByteArray), ByteArray.empty, (⟨#[72, 72, 90]⟩ : ByteArray)⟩ : SourceID), 0, 0, (⟨3, 1⟩ : Rate), 0, 0, 0, ([1, 2, 3, 4] : List Int)⟩ : Record)).bind fun rv5 =>
  (record_Sub (⟨(⟨(⟨#[65]⟩ : ByteArray), (⟨#[66]⟩ : ByteArray), ByteArray.empty, (⟨#[72, 72, 90]⟩ : ByteArray)⟩ : SourceID), 0, 0, (⟨3, 1⟩ : Rate), 0, 0, 0, ([1, 2, 3, 4] : List Int)⟩ : Record) 2 4).bind fun rv13 =>
  (record_At (⟨(⟨(⟨#[65]⟩ : ByteArray), (⟨#[66]⟩ : ByteArray), ByteArray.empty, (⟨#[72, 72, 90]⟩ : ByteArray)⟩ : SourceID), 0, 0, (⟨3, 1⟩ : Rate), 0, 0, 0, ([1, 2, 3, 4] : List Int)⟩ : Record) 2).bind fun rv25 =>
  (record_At rv13.1 0).bind fun rv31 =>
  ((if (((((((rv5.2 == 0) && (rv13.2 == 0)) && (rv25.2 == 0)) && (rv31.2 == 0)) && ((rv5.1.From == 0) && ((rv5.1.To == 1333333) && true))) && (rv25.1 == 666666)) && (rv31.1 == 666666)) = true then
    (record_Valid (⟨(⟨(⟨#[65]⟩ : ByteArray), (⟨#[66]⟩ : ByteArray), ByteArray.empty, (⟨#[72, 72, 90]⟩ : ByteArray)⟩ : SourceID), 0, 0, (⟨3, 1⟩ : Rate), 0, 0, 0, ([1, 2, 3, 4] : List Int)⟩ : Record)).bind fun rv53 =>
    some rv53
  else
    some false)).bind fun c50 =>
  some c50

-- seismonet/seismonetmade.Roll
noncomputable def made_Roll (l1 : (List Int)) : Option Dice :=
  some (⟨l1, 0⟩ : Dice)

-- (*seismonet/seismonetmade.Dice).Next
noncomputable def made_Dice_Next_j1 (d1 : Dice) (x35 : Int) : Option (Int × Dice) :=
  some (x35, (⟨d1.L, (w64 (d1.At + 1))⟩ : Dice))
noncomputable def made_Dice_Next (d1 : Dice) (n8 : Int) : Option (Int × Dice) :=
  (if ((decide ((d1.L.length : Int) ≤ d1.At)) || (decide (n8 < 1))) = true then
    some (0, d1)
  else
    (ix d1.L d1.At).bind fun x17 =>
    (remM x17 n8).bind fun rem29 =>
    (if (decide (rem29 < 0)) = true then
      (some (w64 (rem29 + n8))).bind fun x38 =>
      made_Dice_Next_j1 d1 x38
    else
      made_Dice_Next_j1 d1 rem29))

-- (*seismonet/seismonetmade.Dice).Source
noncomputable def made_Dice_Source (d1 : Dice) : Option (SourceID × Dice) :=
  (made_Dice_Next d1 3).bind fun rv12 =>
  (ix ([(⟨#[71, 82]⟩ : ByteArray), (⟨#[88]⟩ : ByteArray), (⟨#[55, 65]⟩ : ByteArray)] : List ByteArray) rv12.1).bind fun x19 =>
  (made_Dice_Next rv12.2 4).bind fun rv29 =>
  (ix ([(⟨#[70, 85, 82]⟩ : ByteArray), (⟨#[65]⟩ : ByteArray), (⟨#[65, 66, 67, 68, 69]⟩ : ByteArray), (⟨#[70, 85]⟩ : ByteArray)] : List ByteArray) rv29.1).bind fun x36 =>
  (made_Dice_Next rv29.2 3).bind fun rv46 =>
  (ix ([(⟨#[]⟩ : ByteArray), (⟨#[48, 48]⟩ : ByteArray), (⟨#[49, 48]⟩ : ByteArray)] : List ByteArray) rv46.1).bind fun x53 =>
  (made_Dice_Next rv46.2 3).bind fun rv63 =>
  (ix ([(⟨#[72, 72, 90]⟩ : ByteArray), (⟨#[72, 72, 78]⟩ : ByteArray), (⟨#[66, 72, 90]⟩ : ByteArray)] : List ByteArray) rv63.1).bind fun x70 =>
  some ((⟨x19, x36, x53, x70⟩ : SourceID), rv63.2)

-- (*seismonet/seismonetmade.Dice).Pick
noncomputable def made_Dice_Pick (d1 : Dice) (l8 : (List Int)) : Option (Int × Dice) :=
  (made_Dice_Next d1 (l8.length : Int)).bind fun rv13 =>
  (ix l8 rv13.1).bind fun x24 =>
  some (x24, rv13.2)

-- seismonet/seismonetref01.In
noncomputable def ref01_In (n1 : Int) (lo2 : Int) (hi3 : Int) : Option Bool :=
  some ((decide (lo2 ≤ n1)) && (decide (n1 ≤ hi3)))

-- seismonet/seismonetref02.gcd
noncomputable def ref02_gcd_l1 (sv3 : (Int × Int)) : Option ((Int × Int) ⊕ Int) :=
  (if (sv3.2 != 0) = true then
    (remM sv3.1 sv3.2).bind fun rem29 =>
    some (Sum.inl (sv3.2, rem29))
  else
    some (Sum.inr sv3.1))
noncomputable def ref02_gcd (a1 : Int) (b2 : Int) : Option Int :=
  (whileM (ref02_gcd_l1) (a1, b2)).bind fun e21 =>
  some e21

-- seismonet/seismonetref02.New
noncomputable def ref02_New (num1 : Int) (den2 : Int) : Option (Rate × Int) :=
  (ref01_In num1 1 4096).bind fun rv5 =>
  ((if (!rv5) = true then
    some true
  else
    (ref01_In den2 1 4096).bind fun rv20 =>
    some (!rv20))).bind fun c17 =>
  (if c17 = true then
    some ((⟨0, 0⟩ : Rate), 2)
  else
    (ref02_gcd num1 den2).bind fun rv28 =>
    (quoM .i64 num1 rv28).bind fun quo34 =>
    (quoM .i64 den2 rv28).bind fun quo36 =>
    some ((⟨quo34, quo36⟩ : Rate), 0))

-- (*seismonet/seismonetmade.Dice).Record
noncomputable def made_Dice_Record_l1 (sv159 : ((List Int) × Int × (List Int) × Int)) : Option (((List Int) × Int × (List Int) × Int) ⊕ ((List Int) × Int × (List Int))) :=
  (if (decide (0 < sv159.2.2.2)) = true then
    (made_Dice_Next (⟨sv159.1, sv159.2.1⟩ : Dice) 4).bind fun rv250 =>
    (appM 8 sv159.2.2.1 ([rv250.1] : List Int)).bind fun l258 =>
    (some (w64 (sv159.2.2.2 - 1))).bind fun i272 =>
    some (Sum.inl (rv250.2.L, rv250.2.At, l258, i272))
  else
    some (Sum.inr (sv159.1, sv159.2.1, sv159.2.2.1)))
noncomputable def made_Dice_Record (d1 : Dice) (s8 : SourceID) (n9 : Int) : Option (Record × Dice) :=
  (made_Dice_Pick d1 ([1, 2, 2, 3] : List Int)).bind fun rv15 =>
  (made_Dice_Pick rv15.2 ([1, 1, 1, 3] : List Int)).bind fun rv28 =>
  (ref02_New rv15.1 rv28.1).bind fun rv39 =>
  (made_Dice_Next rv28.2 40).bind fun rv46 =>
  (made_Dice_Pick rv46.2 ([0, 0, 3] : List Int)).bind fun rv54 =>
  (made_Dice_Pick rv54.2 ([0, 0, 10, 500] : List Int)).bind fun rv62 =>
  (made_Dice_Next rv62.2 2).bind fun rv68 =>
  (made_Dice_Next rv68.2 6).bind fun rv74 =>
  (made_Dice_Next rv74.2 n9).bind fun rv148 =>
  (some (w64 (1 + rv148.1))).bind fun i158 =>
  (whileM (made_Dice_Record_l1) (rv148.2.L, rv148.2.At, ([] : List Int), i158)).bind fun e226 =>
  some ((⟨s8, (w64 (1000000000000 + (w64 (250000 * rv46.1)))), rv54.1, rv39.1, rv62.1, rv68.1, rv74.1, e226.2.2⟩ : Record), (⟨e226.1, e226.2.1⟩ : Dice))

-- seismonet/record.Follows
noncomputable def record_Follows (a1 : Record) (b5 : Record) (tolerance9 : Int) : Option Bool :=
  (record_Valid a1).bind fun rv13 =>
  ((if (!rv13) = true then
    some true
  else
    (record_Valid b5).bind fun rv28 =>
    some (!rv28))).bind fun c25 =>
  ((if ((c25 || (!((a1.Source.Network == b5.Source.Network) && ((a1.Source.Station == b5.Source.Station) && ((a1.Source.Location == b5.Source.Location) && ((a1.Source.Channel == b5.Source.Channel) && true)))))) || (!((a1.Rate.Num == b5.Rate.Num) && ((a1.Rate.Den == b5.Rate.Den) && true)))) = true then
    some true
  else
    (record_in tolerance9 0 9007199254740992).bind fun rv45 =>
    some (!rv45))).bind fun c42 =>
  (if c42 = true then
    some false
  else
    (record_time b5 0).bind fun rv53 =>
    (record_time a1 (a1.Samples.length : Int)).bind fun rv55 =>
    (record_in (w64 (rv53 - rv55)) (w64 (0 - tolerance9)) tolerance9).bind fun rv57 =>
    some rv57)

-- slices.Equal[[]int,int]
noncomputable def slices_Equal_Lint_int_l2 (s1_1 : (List Int)) (s2_5 : (List Int)) (sv103 : Int) : Option (Int ⊕ Bool) :=
  (if (decide (sv103 < (s1_1.length : Int))) = true then
    (ix s1_1 sv103).bind fun x229 =>
    (ix s2_5 sv103).bind fun x242 =>
    (if (x229 != x242) = true then
      some (Sum.inr false)
    else
      some (Sum.inl (w64 (sv103 + 1))))
  else
    Option.map Sum.inr (some true))
noncomputable def slices_Equal_Lint_int (s1_1 : (List Int)) (s2_5 : (List Int)) : Option Bool :=
  (if ((s1_1.length : Int) != (s2_5.length : Int)) = true then
    some false
  else
    whileM (slices_Equal_Lint_int_l2 s1_1 s2_5) (0))

-- seismonet/record.Same
noncomputable def record_Same (a1 : Record) (b5 : Record) : Option Bool :=
  ((if ((((((((a1.Source.Network == b5.Source.Network) && ((a1.Source.Station == b5.Source.Station) && ((a1.Source.Location == b5.Source.Location) && ((a1.Source.Channel == b5.Source.Channel) && true)))) && (a1.Start == b5.Start)) && (a1.First == b5.First)) && ((a1.Rate.Num == b5.Rate.Num) && ((a1.Rate.Den == b5.Rate.Den) && true))) && (a1.Error == b5.Error)) && (a1.Run == b5.Run)) && (a1.Seq == b5.Seq)) = true then
    (slices_Equal_Lint_int a1.Samples b5.Samples).bind fun rv27 =>
    some rv27
  else
    some false)).bind fun c24 =>
  some c24

-- seismonet/seismonetlaw14.RecordParts
noncomputable def law14_RecordParts_j1 (rv48 : (Record × Dice)) (sv344 : Int) (rv601 : (Int × Int)) (x613 : ByteArray) (x614 : ByteArray) (x615 : ByteArray) (x616 : ByteArray) (x617 : Int) (x618 : Int) (x619 : Int) (x620 : Int) (x621 : Int) (x622 : Int) (x623 : Int) (x624 : (List Int)) (q625 : Int) : Option (Int ⊕ Bool) :=
  (record_At (⟨(⟨x613, x614, x615, x616⟩ : SourceID), x617, x618, (⟨x619, x620⟩ : Rate), x621, x622, x623, x624⟩ : Record) q625).bind fun rv627 =>
  (if (((rv601.2 != 0) || (rv627.2 != 0)) || (rv601.1 != rv627.1)) = true then
    some true
  else
    (ix x624 q625).bind fun x634 =>
    (ix rv48.1.Samples sv344).bind fun x647 =>
    some (x634 != x647)).bind fun c658 =>
  (if c658 = true then
    some (Sum.inr false)
  else
    some (Sum.inl (w64 (sv344 + 1))))
noncomputable def law14_RecordParts_l2 (rv48 : (Record × Dice)) (k80 : Int) (rv82 : (Record × Int)) (rv95 : (Record × Int)) (sv344 : Int) : Option (Int ⊕ Bool) :=
  (if (decide (sv344 < (rv48.1.Samples.length : Int))) = true then
    (record_At rv48.1 sv344).bind fun rv601 =>
    (if (decide (k80 ≤ sv344)) = true then
      (some (w64 (sv344 - k80))).bind fun q790 =>
      law14_RecordParts_j1 rv48 sv344 rv601 rv95.1.Source.Network rv95.1.Source.Station rv95.1.Source.Location rv95.1.Source.Channel rv95.1.Start rv95.1.First rv95.1.Rate.Num rv95.1.Rate.Den rv95.1.Error rv95.1.Run rv95.1.Seq rv95.1.Samples q790
    else
      law14_RecordParts_j1 rv48 sv344 rv601 rv82.1.Source.Network rv82.1.Source.Station rv82.1.Source.Location rv82.1.Source.Channel rv82.1.Start rv82.1.First rv82.1.Rate.Num rv82.1.Rate.Den rv82.1.Error rv82.1.Run rv82.1.Seq rv82.1.Samples sv344)
  else
    Option.map Sum.inr ((made_Dice_Next rv48.2 (rv95.1.Samples.length : Int)).bind fun rv792 =>
    (record_Sub rv95.1 rv792.1 (rv95.1.Samples.length : Int)).bind fun rv802 =>
    (record_Sub rv48.1 (w64 (k80 + rv792.1)) (rv48.1.Samples.length : Int)).bind fun rv814 =>
    ((if ((rv802.2 == 0) && (rv814.2 == 0)) = true then
      (record_Same rv802.1 rv814.1).bind fun rv838 =>
      some rv838
    else
      some false)).bind fun c835 =>
    ((if c835 = true then
      (law14_sane).bind fun rv855 =>
      some rv855
    else
      some false)).bind fun c852 =>
    some c852))
noncomputable def law14_RecordParts (t1 : (List Int)) (n5 : Int) : Option Bool :=
  (made_Light t1).bind fun rv7 =>
  (if (!rv7) = true then
    (law14_sane).bind fun rv21 =>
    some rv21
  else
    (made_Roll t1).bind fun rv27 =>
    (made_Dice_Source rv27).bind fun rv38 =>
    (made_Dice_Record rv38.2 rv38.1 12).bind fun rv48 =>
    (if (decide ((rv48.1.Samples.length : Int) < 2)) = true then
      (law14_sane).bind fun rv72 =>
      some rv72
    else
      (remM (w64 n5) (w64 ((rv48.1.Samples.length : Int) - 1))).bind fun rem78 =>
      (some (w64 (1 + rem78))).bind fun k80 =>
      (record_Sub rv48.1 0 k80).bind fun rv82 =>
      (record_Sub rv48.1 k80 (rv48.1.Samples.length : Int)).bind fun rv95 =>
      (record_Span rv82.1).bind fun rv107 =>
      (record_Span rv95.1).bind fun rv115 =>
      (record_Span rv48.1).bind fun rv123 =>
      ((if ((((((((rv82.2 != 0) || (rv95.2 != 0)) || (rv107.2 != 0)) || (rv115.2 != 0)) || (rv123.2 != 0)) || (rv107.1.From != rv123.1.From)) || (rv107.1.To != rv115.1.From)) || (rv115.1.To != rv123.1.To)) = true then
        some true
      else
        (record_Follows rv82.1 rv95.1 0).bind fun rv146 =>
        some (!rv146))).bind fun c143 =>
      (if c143 = true then
        some false
      else
        whileM (law14_RecordParts_l2 rv48 k80 rv82 rv95) (0))))

-- seismonet/seismonetref03.code
noncomputable def ref03_code_l2 (s1 : ByteArray) (lo2 : Int) (hi3 : Int) (sv111 : Int) : Option (Int ⊕ Bool) :=
  (if (decide (sv111 < (s1.size : Int))) = true then
    (byteAt s1 sv111).bind fun c254 =>
    ((if (decide (65 ≤ c254)) = true then
      (byteAt s1 sv111).bind fun c261 =>
      some (decide (c261 ≤ 90))
    else
      some false)).bind fun c258 =>
    ((if c258 = true then
      some true
    else
      (byteAt s1 sv111).bind fun c275 =>
      ((if (decide (48 ≤ c275)) = true then
        (byteAt s1 sv111).bind fun c282 =>
        some (true, (decide (c282 ≤ 57)))
      else
        some (false, false))).bind fun c279 =>
      some c279.2)).bind fun c272 =>
    (if (!c272) = true then
      some (Sum.inr false)
    else
      (some (w64 (sv111 + 1))).bind fun i287 =>
      some (Sum.inl i287))
  else
    Option.map Sum.inr (some ((decide (lo2 ≤ (s1.size : Int))) && (decide ((s1.size : Int) ≤ hi3)))))
noncomputable def ref03_code (s1 : ByteArray) (lo2 : Int) (hi3 : Int) : Option Bool :=
  whileM (ref03_code_l2 s1 lo2 hi3) (0)

-- seismonet/seismonetref03.Valid
noncomputable def ref03_Valid (s1 : SourceID) : Option Bool :=
  (ref03_code s1.Network 1 2).bind fun rv4 =>
  ((if rv4 = true then
    (ref03_code s1.Station 1 5).bind fun rv19 =>
    some rv19
  else
    some false)).bind fun c16 =>
  ((if c16 = true then
    ((if (s1.Location.toList == (⟨#[]⟩ : ByteArray).toList) = true then
      some true
    else
      (ref03_code s1.Location 2 2).bind fun rv52 =>
      some rv52)).bind fun c49 =>
    some c49
  else
    some false)).bind fun c40 =>
  ((if c40 = true then
    (ref03_code s1.Channel 3 3).bind fun rv67 =>
    some rv67
  else
    some false)).bind fun c64 =>
  some c64

-- seismonet/seismonetref02.Valid
noncomputable def ref02_Valid (r1 : Rate) : Option Bool :=
  (ref01_In r1.Num 1 4096).bind fun rv4 =>
  ((if rv4 = true then
    (ref01_In r1.Den 1 4096).bind fun rv19 =>
    some rv19
  else
    some false)).bind fun c16 =>
  ((if c16 = true then
    (ref02_gcd r1.Num r1.Den).bind fun rv34 =>
    some (rv34 == 1)
  else
    some false)).bind fun c31 =>
  some c31

-- seismonet/seismonetref05.Sample
noncomputable def ref05_Sample (n1 : Int) : Option Bool :=
  (ref01_In n1 (-1073741823) 1073741823).bind fun rv3 =>
  some rv3

-- seismonet/seismonetref05.InRange
noncomputable def ref05_InRange_l2 (l1 : (List Int)) (sv79 : Int) : Option (Int ⊕ Bool) :=
  (if (decide (sv79 < (l1.length : Int))) = true then
    (ix l1 sv79).bind fun x179 =>
    (ref05_Sample x179).bind fun rv191 =>
    (if (!rv191) = true then
      some (Sum.inr false)
    else
      (some (w64 (sv79 + 1))).bind fun i200 =>
      some (Sum.inl i200))
  else
    Option.map Sum.inr (some true))
noncomputable def ref05_InRange (l1 : (List Int)) : Option Bool :=
  whileM (ref05_InRange_l2 l1) (0)

-- seismonet/seismonetref02.Time
noncomputable def ref02_Time (start1 : Int) (r2 : Rate) (k3 : Int) : Option (Int × Int) :=
  (ref02_Valid r2).bind fun rv6 =>
  (if (!rv6) = true then
    some (0, 1)
  else
    (ref01_In start1 0 9007199254740992).bind fun rv14 =>
    ((if (!rv14) = true then
      some true
    else
      (ref01_In k3 0 16777216).bind fun rv29 =>
      some (!rv29))).bind fun c26 =>
    (if c26 = true then
      some (0, 2)
    else
      (quoM .i64 (w64 ((w64 (k3 * r2.Den)) * 1000000)) r2.Num).bind fun quo37 =>
      (some (w64 (start1 + quo37))).bind fun x39 =>
      some (x39, 0)))

-- seismonet/seismonetref14.Time
noncomputable def ref14_Time (r1 : Record) (i5 : Int) : Option Int :=
  (ref02_Time r1.Start r1.Rate (w64 (r1.First + i5))).bind fun rv8 =>
  some rv8.1

-- seismonet/seismonetref14.Valid
noncomputable def ref14_Valid (r1 : Record) : Option Bool :=
  (ref03_Valid r1.Source).bind fun rv7 =>
  ((if (!rv7) = true then
    some true
  else
    (ref02_Valid r1.Rate).bind fun rv22 =>
    some (!rv22))).bind fun c19 =>
  ((if c19 = true then
    some true
  else
    (ref01_In r1.Start 0 9007199254740992).bind fun rv37 =>
    some (!rv37))).bind fun c34 =>
  ((if c34 = true then
    some true
  else
    (ref01_In r1.First 0 16777216).bind fun rv52 =>
    some (!rv52))).bind fun c49 =>
  ((if c49 = true then
    some true
  else
    (ref01_In (r1.Samples.length : Int) 1 65536).bind fun rv67 =>
    some (!rv67))).bind fun c64 =>
  ((if (c64 || (decide (16777216 < (w64 (r1.First + (r1.Samples.length : Int)))))) = true then
    some true
  else
    (ref05_InRange r1.Samples).bind fun rv83 =>
    some (!rv83))).bind fun c80 =>
  (if c80 = true then
    some false
  else
    (ref01_In r1.Error 0 1099511627776).bind fun rv91 =>
    ((if rv91 = true then
      (ref01_In r1.Run 0 65535).bind fun rv106 =>
      some rv106
    else
      some false)).bind fun c103 =>
    ((if c103 = true then
      (ref01_In r1.Seq 0 1073741824).bind fun rv121 =>
      some rv121
    else
      some false)).bind fun c118 =>
    ((if c118 = true then
      (ref14_Time r1 (r1.Samples.length : Int)).bind fun rv136 =>
      some (decide (rv136 ≤ 9007199254740992))
    else
      some false)).bind fun c133 =>
    some c133)

-- seismonet/seismonetref14.Span
noncomputable def ref14_Span (r1 : Record) : Option (Span × Int) :=
  (ref14_Valid r1).bind fun rv8 =>
  (if (!rv8) = true then
    some ((⟨0, 0⟩ : Span), 1)
  else
    (ref14_Time r1 0).bind fun rv16 =>
    (ref14_Time r1 (r1.Samples.length : Int)).bind fun rv18 =>
    some ((⟨rv16, rv18⟩ : Span), 0))

-- sort.Search
noncomputable def sort_Search_j1 (i98 : Int) (j99 : Int) : Option ((Int × Int) ⊕ Int) :=
  some (Sum.inl (i98, j99))
noncomputable def sort_Search_l1 (f2 : Int → Option Bool) (sv7 : (Int × Int)) : Option ((Int × Int) ⊕ Int) :=
  (if (decide (sv7.1 < sv7.2)) = true then
    (shrM .u64 (IntKind.u64.wrap (w64 (sv7.1 + sv7.2))) 1).bind fun shr85 =>
    (some (w64 shr85)).bind fun h87 =>
    (f2 h87).bind fun rv89 =>
    (if (!rv89) = true then
      (some (w64 (h87 + 1))).bind fun i102 =>
      sort_Search_j1 i102 sv7.2
    else
      sort_Search_j1 sv7.1 h87)
  else
    some (Sum.inr sv7.1))
noncomputable def sort_Search (n1 : Int) (f2 : Int → Option Bool) : Option Int :=
  (whileM (sort_Search_l1 f2) (0, n1)).bind fun e64 =>
  some e64

-- seismonet/record.first$1
noncomputable def record_first_fn1 (i1 : Int) (x2 : Record) (x8 : Int) (x11 : Int) : Option Bool :=
  (record_time x2 (w64 (i1 + x8))).bind fun rv15 =>
  some (decide (x11 ≤ rv15))

-- seismonet/record.first
noncomputable def record_first (r1 : Record) (offset5 : Int) (t6 : Int) : Option Int :=
  (sort_Search (r1.Samples.length : Int) (fun y0 => record_first_fn1 y0 r1 offset5 t6)).bind fun rv11 =>
  some rv11

-- seismonet/record.part
noncomputable def record_part (r1 : Record) (from5 : Int) (to6 : Int) : Option (Record × Bool × Int) :=
  (if (decide (to6 ≤ from5)) = true then
    some ((⟨(⟨ByteArray.empty, ByteArray.empty, ByteArray.empty, ByteArray.empty⟩ : SourceID), 0, 0, (⟨0, 0⟩ : Rate), 0, 0, 0, ([] : List Int)⟩ : Record), false, 0)
  else
    (record_sub r1 from5 to6).bind fun rv12 =>
    some (rv12, true, 0))

-- seismonet/record.Cut
noncomputable def record_Cut (r1 : Record) (from5 : Int) (to6 : Int) : Option (Record × Bool × Int) :=
  (record_Valid r1).bind fun rv10 =>
  (if (!rv10) = true then
    some ((⟨(⟨ByteArray.empty, ByteArray.empty, ByteArray.empty, ByteArray.empty⟩ : SourceID), 0, 0, (⟨0, 0⟩ : Rate), 0, 0, 0, ([] : List Int)⟩ : Record), false, 1)
  else
    (record_first r1 0 from5).bind fun rv18 =>
    (record_first r1 0 to6).bind fun rv20 =>
    (record_part r1 rv18 rv20).bind fun rv22 =>
    some (rv22.1, rv22.2.1, rv22.2.2))

-- seismonet/record.Inside$1
noncomputable def record_Inside_fn1 (i1 : Int) (x2 : Record) (x8 : Int) : Option Bool :=
  (record_time x2 (w64 (i1 + 1))).bind fun rv12 =>
  some (decide (x8 < rv12))

-- seismonet/record.Inside
noncomputable def record_Inside (r1 : Record) (from5 : Int) (to6 : Int) : Option (Record × Bool × Int) :=
  (record_Valid r1).bind fun rv11 =>
  (if (!rv11) = true then
    some ((⟨(⟨ByteArray.empty, ByteArray.empty, ByteArray.empty, ByteArray.empty⟩ : SourceID), 0, 0, (⟨0, 0⟩ : Rate), 0, 0, 0, ([] : List Int)⟩ : Record), false, 1)
  else
    (sort_Search (r1.Samples.length : Int) (fun y0 => record_Inside_fn1 y0 r1 to6)).bind fun rv19 =>
    (record_first r1 0 from5).bind fun rv27 =>
    (record_part r1 rv27 rv19).bind fun rv29 =>
    some (rv29.1, rv29.2.1, rv29.2.2))

-- seismonet/seismonetref14.At
noncomputable def ref14_At (r1 : Record) (i5 : Int) : Option (Int × Int) :=
  (ref14_Valid r1).bind fun rv8 =>
  (if (!rv8) = true then
    some (0, 1)
  else
    (ref01_In i5 0 (r1.Samples.length : Int)).bind fun rv16 =>
    (if (!rv16) = true then
      some (0, 2)
    else
      (ref14_Time r1 i5).bind fun rv24 =>
      some (rv24, 0)))

-- seismonet/seismonetlaw14.RecordWindows
noncomputable def law14_RecordWindows_j2 (sv363 : (Int × Int × Int)) (cut757 : Int) (inv792 : Int) : Option ((Int × Int × Int) ⊕ Bool) :=
  some (Sum.inl (cut757, inv792, (w64 (sv363.2.2 + 1))))
noncomputable def law14_RecordWindows_j1 (rv49 : (Record × Dice)) (fromv73 : Int) (to75 : Int) (rv89 : (Record × Bool × Int)) (sv363 : (Int × Int × Int)) (rv712 : (Int × Int)) (rv718 : (Int × Int)) (cut757 : Int) : Option ((Int × Int × Int) ⊕ Bool) :=
  (if ((decide (fromv73 ≤ rv712.1)) && (decide (rv718.1 ≤ to75))) = true then
    (if ((!rv89.2.1) || (decide ((rv89.1.Samples.length : Int) ≤ sv363.2.1))) = true then
      some true
    else
      (ix rv89.1.Samples sv363.2.1).bind fun x796 =>
      (ix rv49.1.Samples sv363.2.2).bind fun x809 =>
      some (x796 != x809)).bind fun c820 =>
    (if c820 = true then
      some (Sum.inr false)
    else
      (some (w64 (sv363.2.1 + 1))).bind fun inv887 =>
      law14_RecordWindows_j2 sv363 cut757 inv887)
  else
    law14_RecordWindows_j2 sv363 cut757 sv363.2.1)
noncomputable def law14_RecordWindows_j4 (rv49 : (Record × Dice)) (rv77 : (Record × Bool × Int)) (rv89 : (Record × Bool × Int)) (sv363 : (Int × Int × Int)) (rv986 : (Record × Bool × Int)) (rv998 : (Record × Bool × Int)) (k1018 : Int) : Option Bool :=
  ((if (((((((rv986.2.2 == 0) && (rv998.2.2 == 0)) && (sv363.1 == (rv77.1.Samples.length : Int))) && (sv363.2.1 == (rv89.1.Samples.length : Int))) && ((decide (0 < sv363.1)) == rv77.2.1)) && ((decide (0 < sv363.2.1)) == rv89.2.1)) && ((w64 (k1018 + sv363.1)) == (rv49.1.Samples.length : Int))) = true then
    (law14_sane).bind fun rv1035 =>
    some rv1035
  else
    some false)).bind fun c1032 =>
  some c1032
noncomputable def law14_RecordWindows_j3 (rv49 : (Record × Dice)) (rv77 : (Record × Bool × Int)) (rv89 : (Record × Bool × Int)) (sv363 : (Int × Int × Int)) (rv986 : (Record × Bool × Int)) (rv998 : (Record × Bool × Int)) (k1013 : Int) : Option Bool :=
  (if rv998.2.1 = true then
    (some (w64 (k1013 + (rv998.1.Samples.length : Int)))).bind fun k1048 =>
    law14_RecordWindows_j4 rv49 rv77 rv89 sv363 rv986 rv998 k1048
  else
    law14_RecordWindows_j4 rv49 rv77 rv89 sv363 rv986 rv998 k1013)
noncomputable def law14_RecordWindows_l2 (rv49 : (Record × Dice)) (fromv73 : Int) (to75 : Int) (rv77 : (Record × Bool × Int)) (rv89 : (Record × Bool × Int)) (sv363 : (Int × Int × Int)) : Option ((Int × Int × Int) ⊕ Bool) :=
  (if (decide (sv363.2.2 < (rv49.1.Samples.length : Int))) = true then
    (ref14_At rv49.1 sv363.2.2).bind fun rv712 =>
    (ref14_At rv49.1 (w64 (sv363.2.2 + 1))).bind fun rv718 =>
    (if ((decide (fromv73 ≤ rv712.1)) && (decide (rv712.1 < to75))) = true then
      (if ((!rv77.2.1) || (decide ((rv77.1.Samples.length : Int) ≤ sv363.1))) = true then
        some true
      else
        (ix rv77.1.Samples sv363.1).bind fun x892 =>
        (ix rv49.1.Samples sv363.2.2).bind fun x905 =>
        some (x892 != x905)).bind fun c916 =>
      (if c916 = true then
        some (Sum.inr false)
      else
        (some (w64 (sv363.1 + 1))).bind fun cut983 =>
        law14_RecordWindows_j1 rv49 fromv73 to75 rv89 sv363 rv712 rv718 cut983)
    else
      law14_RecordWindows_j1 rv49 fromv73 to75 rv89 sv363 rv712 rv718 sv363.1)
  else
    Option.map Sum.inr ((record_Cut rv49.1 0 fromv73).bind fun rv986 =>
    (record_Cut rv49.1 to75 9007199254740992).bind fun rv998 =>
    (if rv986.2.1 = true then
      (some (w64 (0 + (rv986.1.Samples.length : Int)))).bind fun k1051 =>
      law14_RecordWindows_j3 rv49 rv77 rv89 sv363 rv986 rv998 k1051
    else
      law14_RecordWindows_j3 rv49 rv77 rv89 sv363 rv986 rv998 0)))
noncomputable def law14_RecordWindows (t1 : (List Int)) (n5 : Int) (m6 : Int) : Option Bool :=
  (made_Light t1).bind fun rv8 =>
  (if (!rv8) = true then
    (law14_sane).bind fun rv22 =>
    some rv22
  else
    (made_Roll t1).bind fun rv28 =>
    (made_Dice_Source rv28).bind fun rv39 =>
    (made_Dice_Record rv39.2 rv39.1 12).bind fun rv49 =>
    (ref14_Span rv49.1).bind fun rv65 =>
    (some (w64 ((w64 (rv65.1.From + (w64 (111111 * (Int.tmod (w64 n5) 40))))) - 500000))).bind fun fromv73 =>
    (some (w64 (fromv73 + (w64 (111111 * (Int.tmod (w64 m6) 40)))))).bind fun to75 =>
    (record_Cut rv49.1 fromv73 to75).bind fun rv77 =>
    (record_Inside rv49.1 fromv73 to75).bind fun rv89 =>
    (if ((rv77.2.2 != 0) || (rv89.2.2 != 0)) = true then
      some false
    else
      whileM (law14_RecordWindows_l2 rv49 fromv73 to75 rv77 rv89) (0, 0, 0)))

-- (*seismonet/seismonetmade.Dice).Records
noncomputable def made_Dice_Records_j1 (sv30 : ((List Int) × Int × (List Record) × Int)) (x583 : (List Int)) (x584 : Int) (x585 : ByteArray) (x586 : ByteArray) (x587 : ByteArray) (x588 : ByteArray) (x589 : Int) (x590 : Int) (x591 : Int) (x592 : Int) (x593 : Int) (x594 : Int) (x595 : Int) (x596 : (List Int)) : Option (((List Int) × Int × (List Record) × Int) ⊕ ((List Int) × Int × (List Record))) :=
  (appM 144 sv30.2.2.1 ([(⟨(⟨x585, x586, x587, x588⟩ : SourceID), x589, x590, (⟨x591, x592⟩ : Rate), x593, x594, x595, x596⟩ : Record)] : List Record)).bind fun l600 =>
  (some (w64 (sv30.2.2.2 - 1))).bind fun i605 =>
  some (Sum.inl (x583, x584, l600, i605))
noncomputable def made_Dice_Records_l1 (rv10 : (SourceID × Dice)) (sv30 : ((List Int) × Int × (List Record) × Int)) : Option (((List Int) × Int × (List Record) × Int) ⊕ ((List Int) × Int × (List Record))) :=
  (if (decide (0 < sv30.2.2.2)) = true then
    (made_Dice_Record (⟨sv30.1, sv30.2.1⟩ : Dice) rv10.1 6).bind fun rv497 =>
    ((if (decide (0 < (sv30.2.2.1.length : Int))) = true then
      (made_Dice_Next rv497.2 5).bind fun rv528 =>
      some (rv528.2.L, rv528.2.At, (rv528.1 == 0))
    else
      some (rv497.2.L, rv497.2.At, false))).bind fun c523 =>
    (if c523.2.2 = true then
      (made_Dice_Next (⟨c523.1, c523.2.1⟩ : Dice) (sv30.2.2.1.length : Int)).bind fun rv608 =>
      (ix sv30.2.2.1 rv608.1).bind fun x619 =>
      (made_Dice_Pick rv608.2 ([x619.Seq, 9] : List Int)).bind fun rv637 =>
      made_Dice_Records_j1 sv30 rv637.2.L rv637.2.At x619.Source.Network x619.Source.Station x619.Source.Location x619.Source.Channel x619.Start x619.First x619.Rate.Num x619.Rate.Den x619.Error x619.Run rv637.1 x619.Samples
    else
      made_Dice_Records_j1 sv30 c523.1 c523.2.1 rv497.1.Source.Network rv497.1.Source.Station rv497.1.Source.Location rv497.1.Source.Channel rv497.1.Start rv497.1.First rv497.1.Rate.Num rv497.1.Rate.Den rv497.1.Error rv497.1.Run rv497.1.Seq rv497.1.Samples)
  else
    some (Sum.inr (sv30.1, sv30.2.1, sv30.2.2.1)))
noncomputable def made_Dice_Records (d1 : Dice) (n8 : Int) : Option ((List Record) × Dice) :=
  (made_Dice_Source d1).bind fun rv10 =>
  (made_Dice_Next rv10.2 (w64 (n8 + 1))).bind fun rv21 =>
  (whileM (made_Dice_Records_l1 rv10) (rv21.2.L, rv21.2.At, ([] : List Record), rv21.1)).bind fun e379 =>
  some (e379.2.2, (⟨e379.1, e379.2.1⟩ : Dice))

-- cmp.isNaN[string]
noncomputable def cmp_isNaN_string (x1 : ByteArray) : Option Bool :=
  some (!(x1.toList == x1.toList))

-- cmp.Compare[string]
noncomputable def cmp_Compare_string (x1 : ByteArray) (y2 : ByteArray) : Option Int :=
  (cmp_isNaN_string x1).bind fun rv4 =>
  (cmp_isNaN_string y2).bind fun rv10 =>
  (if rv4 = true then
    (if rv10 = true then
      some 0
    else
      some (-1))
  else
    (if rv10 = true then
      some 1
    else
      (if (Op.bytesLess x1.toList y2.toList) = true then
        some (-1)
      else
        (if (!((Op.bytesLess x1.toList y2.toList) || (x1.toList == y2.toList))) = true then
          some 1
        else
          some 0))))

-- cmp.Or[int]
noncomputable def cmp_Or_int_l2 (vals1 : (List Int)) (sv55 : Int) : Option (Int ⊕ Int) :=
  (if (decide (sv55 < (vals1.length : Int))) = true then
    (ix vals1 sv55).bind fun x125 =>
    (if (x125 != 0) = true then
      some (Sum.inr x125)
    else
      some (Sum.inl (w64 (sv55 + 1))))
  else
    Option.map Sum.inr (some 0))
noncomputable def cmp_Or_int (vals1 : (List Int)) : Option Int :=
  whileM (cmp_Or_int_l2 vals1) (0)

-- seismonet/source.Compare
noncomputable def source_Compare (a1 : SourceID) (b2 : SourceID) : Option Int :=
  (cmp_Compare_string a1.Network b2.Network).bind fun rv6 =>
  (cmp_Compare_string a1.Station b2.Station).bind fun rv8 =>
  (cmp_Compare_string a1.Location b2.Location).bind fun rv10 =>
  (cmp_Compare_string a1.Channel b2.Channel).bind fun rv12 =>
  (cmp_Or_int ([rv6, rv8, rv10, rv12] : List Int)).bind fun rv16 =>
  some rv16

-- seismonet/record.begin
noncomputable def record_begin (r1 : Record) : Option Int :=
  (record_Valid r1).bind fun rv7 =>
  (if (!rv7) = true then
    some 0
  else
    (record_time r1 0).bind fun rv15 =>
    some rv15)

-- cmp.isNaN[int]
noncomputable def cmp_isNaN_int (x1 : Int) : Option Bool :=
  some (x1 != x1)

-- cmp.Compare[int]
noncomputable def cmp_Compare_int (x1 : Int) (y2 : Int) : Option Int :=
  (cmp_isNaN_int x1).bind fun rv4 =>
  (cmp_isNaN_int y2).bind fun rv10 =>
  (if rv4 = true then
    (if rv10 = true then
      some 0
    else
      some (-1))
  else
    (if rv10 = true then
      some 1
    else
      (if (decide (x1 < y2)) = true then
        some (-1)
      else
        (if (decide (y2 < x1)) = true then
          some 1
        else
          some 0))))

-- slices.Compare[[]int,int]
noncomputable def slices_Compare_Lint_int_l2 (s1_1 : (List Int)) (s2_5 : (List Int)) (sv119 : Int) : Option (Int ⊕ Int) :=
  (if (decide (sv119 < (s1_1.length : Int))) = true then
    (ix s1_1 sv119).bind fun x269 =>
    (if (decide ((s2_5.length : Int) ≤ sv119)) = true then
      some (Sum.inr 1)
    else
      (ix s2_5 sv119).bind fun x285 =>
      (cmp_Compare_int x269 x285).bind fun rv297 =>
      (if (rv297 != 0) = true then
        some (Sum.inr rv297)
      else
        some (Sum.inl (w64 (sv119 + 1)))))
  else
    Option.map Sum.inr ((if (decide ((s1_1.length : Int) < (s2_5.length : Int))) = true then
      some (-1)
    else
      some 0)))
noncomputable def slices_Compare_Lint_int (s1_1 : (List Int)) (s2_5 : (List Int)) : Option Int :=
  whileM (slices_Compare_Lint_int_l2 s1_1 s2_5) (0)

-- seismonet/record.Compare
noncomputable def record_Compare (a1 : Record) (b5 : Record) : Option Int :=
  (source_Compare a1.Source b5.Source).bind fun rv12 =>
  (record_begin a1).bind fun rv14 =>
  (record_begin b5).bind fun rv16 =>
  (cmp_Compare_int rv14 rv16).bind fun rv18 =>
  (cmp_Compare_int a1.Start b5.Start).bind fun rv20 =>
  (cmp_Compare_int a1.First b5.First).bind fun rv22 =>
  (cmp_Compare_int a1.Rate.Num b5.Rate.Num).bind fun rv24 =>
  (cmp_Compare_int a1.Rate.Den b5.Rate.Den).bind fun rv26 =>
  (cmp_Compare_int a1.Error b5.Error).bind fun rv28 =>
  (cmp_Compare_int a1.Run b5.Run).bind fun rv30 =>
  (cmp_Compare_int a1.Seq b5.Seq).bind fun rv32 =>
  (cmp_Compare_int (a1.Samples.length : Int) (b5.Samples.length : Int)).bind fun rv34 =>
  (slices_Compare_Lint_int a1.Samples b5.Samples).bind fun rv36 =>
  (cmp_Or_int ([rv12, rv18, rv20, rv22, rv24, rv26, rv28, rv30, rv32, rv34, rv36] : List Int)).bind fun rv40 =>
  some rv40

-- seismonet/record.Better
noncomputable def record_Better (a1 : Record) (b5 : Record) : Option Bool :=
  (cmp_Compare_int a1.Error b5.Error).bind fun rv12 =>
  (cmp_Compare_int b5.Run a1.Run).bind fun rv14 =>
  (cmp_Compare_int b5.Seq a1.Seq).bind fun rv16 =>
  (record_Compare a1 b5).bind fun rv18 =>
  (cmp_Or_int ([rv12, rv14, rv16, rv18] : List Int)).bind fun rv22 =>
  some (decide (rv22 < 0))

-- seismonet/seismonetlaw14.RecordOrder
noncomputable def law14_RecordOrder_l41 (rv37 : ((List Record) × Dice)) (sv4880 : Int) (sv12927 : Int) (rv15102 : Int) (rv15240 : Bool) (sv15662 : Int) : Option (Int ⊕ (Int ⊕ (Int ⊕ Bool))) :=
  (if (decide (sv15662 < (rv37.1.length : Int))) = true then
    (if (decide (rv15102 < 0)) = true then
      (ix rv37.1 sv12927).bind fun x16152 =>
      (ix rv37.1 sv15662).bind fun x16165 =>
      (record_Compare x16152 x16165).bind fun rv16177 =>
      some (decide (rv16177 < 0))
    else
      some false).bind fun c16178 =>
    (if c16178 = true then
      (ix rv37.1 sv4880).bind fun x16181 =>
      (ix rv37.1 sv15662).bind fun x16194 =>
      (record_Compare x16181 x16194).bind fun rv16206 =>
      some (decide (0 ≤ rv16206))
    else
      some false).bind fun c16207 =>
    (if c16207 = true then
      some true
    else
      (if rv15240 = true then
        (ix rv37.1 sv12927).bind fun x16210 =>
        (ix rv37.1 sv15662).bind fun x16223 =>
        (record_Better x16210 x16223).bind fun rv16235 =>
        some rv16235
      else
        some false).bind fun c16236 =>
      (if c16236 = true then
        (ix rv37.1 sv4880).bind fun x16239 =>
        (ix rv37.1 sv15662).bind fun x16252 =>
        (record_Better x16239 x16252).bind fun rv16264 =>
        some (!rv16264)
      else
        some false).bind fun c16265 =>
      some c16265).bind fun c16266 =>
    (if c16266 = true then
      some (Sum.inr (Sum.inr (Sum.inr false)))
    else
      some (Sum.inl (w64 (sv15662 + 1))))
  else
    Option.map Sum.inr (some (Sum.inl (w64 (sv12927 + 1)))))
noncomputable def law14_RecordOrder_l37 (rv37 : ((List Record) × Dice)) (sv4880 : Int) (sv12927 : Int) : Option (Int ⊕ (Int ⊕ Bool)) :=
  (if (decide (sv12927 < (rv37.1.length : Int))) = true then
    (ix rv37.1 sv4880).bind fun x15073 =>
    (ix rv37.1 sv12927).bind fun x15090 =>
    (record_Compare x15073 x15090).bind fun rv15102 =>
    (ix rv37.1 sv12927).bind fun x15110 =>
    (ix rv37.1 sv4880).bind fun x15123 =>
    (record_Compare x15110 x15123).bind fun rv15135 =>
    (if (rv15102 != (w64 (0 - rv15135))) = true then
      some true
    else
      (ix rv37.1 sv4880).bind fun x15138 =>
      (ix rv37.1 sv12927).bind fun x15151 =>
      (record_Same x15138 x15151).bind fun rv15163 =>
      some (!((rv15102 == 0) == rv15163))).bind fun c15164 =>
    (if c15164 = true then
      some (Sum.inr (Sum.inr false))
    else
      (ix rv37.1 sv4880).bind fun x15215 =>
      (ix rv37.1 sv12927).bind fun x15228 =>
      (record_Better x15215 x15228).bind fun rv15240 =>
      (ix rv37.1 sv12927).bind fun x15243 =>
      (ix rv37.1 sv4880).bind fun x15256 =>
      (record_Better x15243 x15256).bind fun rv15268 =>
      (if (((rv15240 && rv15268) || (((!rv15240) && (!rv15268)) && (rv15102 != 0))) || ((rv15102 == 0) && rv15240)) = true then
        some (Sum.inr (Sum.inr false))
      else
        whileM (law14_RecordOrder_l41 rv37 sv4880 sv12927 rv15102 rv15240) (0)))
  else
    Option.map Sum.inr (some (Sum.inl (w64 (sv4880 + 1)))))
noncomputable def law14_RecordOrder_l22 (rv37 : ((List Record) × Dice)) (sv4880 : Int) : Option (Int ⊕ Bool) :=
  (if (decide (sv4880 < (rv37.1.length : Int))) = true then
    whileM (law14_RecordOrder_l37 rv37 sv4880) (0)
  else
    Option.map Sum.inr ((law14_sane).bind fun rv17134 =>
    some rv17134))
noncomputable def law14_RecordOrder (t1 : (List Int)) : Option Bool :=
  (made_Light t1).bind fun rv6 =>
  (if (!rv6) = true then
    (law14_sane).bind fun rv20 =>
    some rv20
  else
    (made_Roll t1).bind fun rv26 =>
    (made_Dice_Records rv26 4).bind fun rv37 =>
    whileM (law14_RecordOrder_l22 rv37) (0))

-- (*seismonet/seismonetmade.Dice).OddRecord
noncomputable def made_Dice_OddRecord_j1 (r8 : Record) (x442 : (List Int)) (x443 : Int) (x444 : ByteArray) (x445 : Int) (x446 : Int) (x447 : Int) (x448 : Int) (x449 : Int) (x450 : Int) (x451 : Int) (x452 : (List Int)) : Option (Record × Dice) :=
  some ((⟨(⟨r8.Source.Network, x444, r8.Source.Location, r8.Source.Channel⟩ : SourceID), x445, x446, (⟨x447, x448⟩ : Rate), x449, x450, x451, x452⟩ : Record), (⟨x442, x443⟩ : Dice))
noncomputable def made_Dice_OddRecord_j2 (r8 : Record) (x638 : (List Int)) (x639 : Int) (x640 : Int) (x641 : Int) (x642 : Int) (x643 : Int) (x644 : Int) (x645 : Int) (x646 : Int) (x647 : (List Int)) : Option (Record × Dice) :=
  made_Dice_OddRecord_j1 r8 x638 x639 r8.Source.Station x640 x641 x642 x643 x644 x645 x646 x647
noncomputable def made_Dice_OddRecord_j3 (r8 : Record) (x817 : (List Int)) (x818 : Int) (x819 : Int) (x820 : Int) (x821 : Int) (x822 : Int) (x823 : Int) (x824 : Int) (x825 : (List Int)) : Option (Record × Dice) :=
  made_Dice_OddRecord_j2 r8 x817 x818 r8.Start x819 x820 x821 x822 x823 x824 x825
noncomputable def made_Dice_OddRecord_j4 (r8 : Record) (x967 : (List Int)) (x968 : Int) (x969 : Int) (x970 : Int) (x971 : Int) (x972 : Int) (x973 : Int) (x974 : (List Int)) : Option (Record × Dice) :=
  made_Dice_OddRecord_j3 r8 x967 x968 r8.First x969 x970 x971 x972 x973 x974
noncomputable def made_Dice_OddRecord_j5 (r8 : Record) (x1090 : (List Int)) (x1091 : Int) (x1092 : Int) (x1093 : Int) (x1094 : Int) (x1095 : (List Int)) : Option (Record × Dice) :=
  made_Dice_OddRecord_j4 r8 x1090 x1091 r8.Rate.Num r8.Rate.Den x1092 x1093 x1094 x1095
noncomputable def made_Dice_OddRecord_j6 (r8 : Record) (x1186 : (List Int)) (x1187 : Int) (x1188 : Int) (x1189 : Int) (x1190 : (List Int)) : Option (Record × Dice) :=
  made_Dice_OddRecord_j5 r8 x1186 x1187 r8.Error x1188 x1189 x1190
noncomputable def made_Dice_OddRecord_j7 (r8 : Record) (x1257 : (List Int)) (x1258 : Int) (x1259 : Int) (x1260 : (List Int)) : Option (Record × Dice) :=
  made_Dice_OddRecord_j6 r8 x1257 x1258 r8.Run x1259 x1260
noncomputable def made_Dice_OddRecord_j8 (r8 : Record) (x1304 : (List Int)) (x1305 : Int) (x1306 : (List Int)) : Option (Record × Dice) :=
  made_Dice_OddRecord_j7 r8 x1304 x1305 r8.Seq x1306
noncomputable def made_Dice_OddRecord_j9 (r8 : Record) (rv20 : (Int × Dice)) (x1344 : (List Int)) : Option (Record × Dice) :=
  made_Dice_OddRecord_j8 r8 rv20.2.L rv20.2.At x1344
noncomputable def made_Dice_OddRecord (d1 : Dice) (r8 : Record) : Option (Record × Dice) :=
  (appM 8 ([] : List Int) r8.Samples).bind fun l15 =>
  (made_Dice_Next d1 10).bind fun rv20 =>
  (if (rv20.1 == 0) = true then
    made_Dice_OddRecord_j1 r8 rv20.2.L rv20.2.At (⟨#[]⟩ : ByteArray) r8.Start r8.First r8.Rate.Num r8.Rate.Den r8.Error r8.Run r8.Seq l15
  else
    (if (rv20.1 == 1) = true then
      (made_Dice_Pick rv20.2 ([(-1), 0, 9007199254740992, 9007199254740993] : List Int)).bind fun rv652 =>
      made_Dice_OddRecord_j2 r8 rv652.2.L rv652.2.At rv652.1 r8.First r8.Rate.Num r8.Rate.Den r8.Error r8.Run r8.Seq l15
    else
      (if (rv20.1 == 2) = true then
        (made_Dice_Pick rv20.2 ([(-1), 16777213, 16777216] : List Int)).bind fun rv830 =>
        made_Dice_OddRecord_j3 r8 rv830.2.L rv830.2.At rv830.1 r8.Rate.Num r8.Rate.Den r8.Error r8.Run r8.Seq l15
      else
        (if (rv20.1 == 3) = true then
          (made_Dice_Pick rv20.2 ([0, 2, 4097] : List Int)).bind fun rv979 =>
          made_Dice_OddRecord_j4 r8 rv979.2.L rv979.2.At rv979.1 2 r8.Error r8.Run r8.Seq l15
        else
          (if (rv20.1 == 4) = true then
            (made_Dice_Pick rv20.2 ([(-1), 1099511627776, 1099511627777] : List Int)).bind fun rv1100 =>
            made_Dice_OddRecord_j5 r8 rv1100.2.L rv1100.2.At rv1100.1 r8.Run r8.Seq l15
          else
            (if (rv20.1 == 5) = true then
              (made_Dice_Pick rv20.2 ([(-1), 65535, 65536] : List Int)).bind fun rv1195 =>
              made_Dice_OddRecord_j6 r8 rv1195.2.L rv1195.2.At rv1195.1 r8.Seq l15
            else
              (if (rv20.1 == 6) = true then
                (made_Dice_Pick rv20.2 ([(-1), 1073741824, 1073741825] : List Int)).bind fun rv1265 =>
                made_Dice_OddRecord_j7 r8 rv1265.2.L rv1265.2.At rv1265.1 l15
              else
                (if (rv20.1 == 7) = true then
                  (made_Dice_Pick rv20.2 ([1073741823, 1073741824, (-1073741824)] : List Int)).bind fun rv1311 =>
                  (appM 8 l15 ([rv1311.1] : List Int)).bind fun l1319 =>
                  made_Dice_OddRecord_j8 r8 rv1311.2.L rv1311.2.At l1319
                else
                  (if (rv20.1 == 8) = true then
                    made_Dice_OddRecord_j9 r8 rv20 ([] : List Int)
                  else
                    made_Dice_OddRecord_j9 r8 rv20 l15)))))))))

-- seismonet/seismonetref14.Sub
noncomputable def ref14_Sub (r1 : Record) (from5 : Int) (to6 : Int) : Option (Record × Int) :=
  (ref14_Valid r1).bind fun rv10 =>
  (if (!rv10) = true then
    some ((⟨(⟨ByteArray.empty, ByteArray.empty, ByteArray.empty, ByteArray.empty⟩ : SourceID), 0, 0, (⟨0, 0⟩ : Rate), 0, 0, 0, ([] : List Int)⟩ : Record), 1)
  else
    (if (((decide (from5 < 0)) || (decide (to6 ≤ from5))) || (decide ((r1.Samples.length : Int) < to6))) = true then
      some ((⟨(⟨ByteArray.empty, ByteArray.empty, ByteArray.empty, ByteArray.empty⟩ : SourceID), 0, 0, (⟨0, 0⟩ : Rate), 0, 0, 0, ([] : List Int)⟩ : Record), 2)
    else
      (subM r1.Samples from5 to6).bind fun l27 =>
      (appM 8 ([] : List Int) l27).bind fun l29 =>
      some ((⟨r1.Source, r1.Start, (w64 (r1.First + from5)), r1.Rate, r1.Error, r1.Run, r1.Seq, l29⟩ : Record), 0)))

-- seismonet/seismonetref05.Same
noncomputable def ref05_Same_l2 (a1 : (List Int)) (b5 : (List Int)) (sv109 : Int) : Option (Int ⊕ Bool) :=
  (if (decide (sv109 < (a1.length : Int))) = true then
    (ix a1 sv109).bind fun x241 =>
    (ix b5 sv109).bind fun x254 =>
    (if (x241 != x254) = true then
      some (Sum.inr false)
    else
      (some (w64 (sv109 + 1))).bind fun i270 =>
      some (Sum.inl i270))
  else
    Option.map Sum.inr (some true))
noncomputable def ref05_Same (a1 : (List Int)) (b5 : (List Int)) : Option Bool :=
  (if ((a1.length : Int) != (b5.length : Int)) = true then
    some false
  else
    whileM (ref05_Same_l2 a1 b5) (0))

-- seismonet/seismonetref14.Same
noncomputable def ref14_Same (a1 : Record) (b5 : Record) : Option Bool :=
  ((if ((((((((a1.Source.Network == b5.Source.Network) && ((a1.Source.Station == b5.Source.Station) && ((a1.Source.Location == b5.Source.Location) && ((a1.Source.Channel == b5.Source.Channel) && true)))) && (a1.Start == b5.Start)) && (a1.First == b5.First)) && ((a1.Rate.Num == b5.Rate.Num) && ((a1.Rate.Den == b5.Rate.Den) && true))) && (a1.Error == b5.Error)) && (a1.Run == b5.Run)) && (a1.Seq == b5.Seq)) = true then
    (ref05_Same a1.Samples b5.Samples).bind fun rv27 =>
    some rv27
  else
    some false)).bind fun c24 =>
  some c24

-- seismonet/seismonetref14.part
noncomputable def ref14_part_j2 (sv18 : (Int × Int × Int)) (first295 : Int) (last296 : Int) : Option ((Int × Int × Int) ⊕ (Int × Int)) :=
  (some (w64 (sv18.2.2 + 1))).bind fun i298 =>
  some (Sum.inl (first295, last296, i298))
noncomputable def ref14_part_j3 (sv18 : (Int × Int × Int)) (first302 : Int) : Option ((Int × Int × Int) ⊕ (Int × Int)) :=
  ref14_part_j2 sv18 first302 sv18.2.2
noncomputable def ref14_part_j1 (sv18 : (Int × Int × Int)) (inv289 : Bool) : Option ((Int × Int × Int) ⊕ (Int × Int)) :=
  (if inv289 = true then
    (if (decide (sv18.1 < 0)) = true then
      ref14_part_j3 sv18 sv18.2.2
    else
      ref14_part_j3 sv18 sv18.1)
  else
    ref14_part_j2 sv18 sv18.1 sv18.2.1)
noncomputable def ref14_part_l1 (r1 : Record) (from5 : Int) (to6 : Int) (whole7 : Bool) (sv18 : (Int × Int × Int)) : Option ((Int × Int × Int) ⊕ (Int × Int)) :=
  (if (decide (sv18.2.2 < (r1.Samples.length : Int))) = true then
    (ref14_Time r1 sv18.2.2).bind fun rv246 =>
    ((if (decide (from5 ≤ rv246)) = true then
      (ref14_Time r1 sv18.2.2).bind fun rv261 =>
      some (decide (rv261 < to6))
    else
      some false)).bind fun c258 =>
    (if whole7 = true then
      (ref14_Time r1 sv18.2.2).bind fun rv306 =>
      ((if (decide (from5 ≤ rv306)) = true then
        (ref14_Time r1 (w64 (sv18.2.2 + 1))).bind fun rv321 =>
        some (decide (rv321 ≤ to6))
      else
        some false)).bind fun c318 =>
      ref14_part_j1 sv18 c318
    else
      ref14_part_j1 sv18 c258)
  else
    some (Sum.inr (sv18.1, sv18.2.1)))
noncomputable def ref14_part (r1 : Record) (from5 : Int) (to6 : Int) (whole7 : Bool) : Option (Record × Bool × Int) :=
  (ref14_Valid r1).bind fun rv11 =>
  (if (!rv11) = true then
    some ((⟨(⟨ByteArray.empty, ByteArray.empty, ByteArray.empty, ByteArray.empty⟩ : SourceID), 0, 0, (⟨0, 0⟩ : Rate), 0, 0, 0, ([] : List Int)⟩ : Record), false, 1)
  else
    (whileM (ref14_part_l1 r1 from5 to6 whole7) ((-1), (-1), 0)).bind fun e189 =>
    (if (decide (e189.1 < 0)) = true then
      some ((⟨(⟨ByteArray.empty, ByteArray.empty, ByteArray.empty, ByteArray.empty⟩ : SourceID), 0, 0, (⟨0, 0⟩ : Rate), 0, 0, 0, ([] : List Int)⟩ : Record), false, 0)
    else
      (ref14_Sub r1 e189.1 (w64 (e189.2 + 1))).bind fun rv330 =>
      some (rv330.1, true, 0)))

-- seismonet/seismonetref14.Cut
noncomputable def ref14_Cut (r1 : Record) (from5 : Int) (to6 : Int) : Option (Record × Bool × Int) :=
  (ref14_part r1 from5 to6 false).bind fun rv10 =>
  some (rv10.1, rv10.2.1, rv10.2.2)

-- seismonet/seismonetref14.Inside
noncomputable def ref14_Inside (r1 : Record) (from5 : Int) (to6 : Int) : Option (Record × Bool × Int) :=
  (ref14_part r1 from5 to6 true).bind fun rv10 =>
  some (rv10.1, rv10.2.1, rv10.2.2)

-- seismonet/seismonetref03.compare
noncomputable def ref03_compare (a1 : ByteArray) (b2 : ByteArray) : Option Int :=
  (if (Op.bytesLess a1.toList b2.toList) = true then
    some (-1)
  else
    (if (!((Op.bytesLess a1.toList b2.toList) || (a1.toList == b2.toList))) = true then
      some 1
    else
      some 0))

-- seismonet/seismonetref03.Compare
noncomputable def ref03_Compare_l2 (rv6 : Int) (rv8 : Int) (rv10 : Int) (rv12 : Int) (sv47 : Int) : Option (Int ⊕ Int) :=
  (if (decide (sv47 < 4)) = true then
    (ix ([rv6, rv8, rv10, rv12] : List Int) sv47).bind fun x72 =>
    (if (x72 != 0) = true then
      some (Sum.inr x72)
    else
      some (Sum.inl (w64 (sv47 + 1))))
  else
    Option.map Sum.inr (some 0))
noncomputable def ref03_Compare (a1 : SourceID) (b2 : SourceID) : Option Int :=
  (ref03_compare a1.Network b2.Network).bind fun rv6 =>
  (ref03_compare a1.Station b2.Station).bind fun rv8 =>
  (ref03_compare a1.Location b2.Location).bind fun rv10 =>
  (ref03_compare a1.Channel b2.Channel).bind fun rv12 =>
  whileM (ref03_Compare_l2 rv6 rv8 rv10 rv12) (0)

-- seismonet/seismonetref14.number
noncomputable def ref14_number (a1 : Int) (b2 : Int) : Option Int :=
  (if (decide (a1 < b2)) = true then
    some (-1)
  else
    (if (decide (b2 < a1)) = true then
      some 1
    else
      some 0))

-- seismonet/seismonetref14.Compare
noncomputable def ref14_Compare_l4 (a1 : Record) (b5 : Record) (sv252 : Int) : Option (Int ⊕ Int) :=
  (if (decide (sv252 < (a1.Samples.length : Int))) = true then
    (ix a1.Samples sv252).bind fun x392 =>
    (ix b5.Samples sv252).bind fun x405 =>
    (ref14_number x392 x405).bind fun rv417 =>
    (if (rv417 != 0) = true then
      some (Sum.inr rv417)
    else
      (some (w64 (sv252 + 1))).bind fun i427 =>
      some (Sum.inl i427))
  else
    Option.map Sum.inr (some 0))
noncomputable def ref14_Compare_l2 (a1 : Record) (b5 : Record) (rv42 : Int) (rv44 : Int) (rv46 : Int) (rv48 : Int) (rv50 : Int) (rv52 : Int) (rv54 : Int) (rv56 : Int) (rv58 : Int) (rv60 : Int) (sv119 : Int) : Option (Int ⊕ Int) :=
  (if (decide (sv119 < 10)) = true then
    (ix ([rv42, rv44, rv46, rv48, rv50, rv52, rv54, rv56, rv58, rv60] : List Int) sv119).bind fun x144 =>
    (if (x144 != 0) = true then
      some (Sum.inr x144)
    else
      some (Sum.inl (w64 (sv119 + 1))))
  else
    Option.map Sum.inr (whileM (ref14_Compare_l4 a1 b5) (0)))
noncomputable def ref14_Compare_j2 (a1 : Record) (b5 : Record) (x25 : Int) (y40 : Int) : Option Int :=
  (ref03_Compare a1.Source b5.Source).bind fun rv42 =>
  (ref14_number x25 y40).bind fun rv44 =>
  (ref14_number a1.Start b5.Start).bind fun rv46 =>
  (ref14_number a1.First b5.First).bind fun rv48 =>
  (ref14_number a1.Rate.Num b5.Rate.Num).bind fun rv50 =>
  (ref14_number a1.Rate.Den b5.Rate.Den).bind fun rv52 =>
  (ref14_number a1.Error b5.Error).bind fun rv54 =>
  (ref14_number a1.Run b5.Run).bind fun rv56 =>
  (ref14_number a1.Seq b5.Seq).bind fun rv58 =>
  (ref14_number (a1.Samples.length : Int) (b5.Samples.length : Int)).bind fun rv60 =>
  whileM (ref14_Compare_l2 a1 b5 rv42 rv44 rv46 rv48 rv50 rv52 rv54 rv56 rv58 rv60) (0)
noncomputable def ref14_Compare_j1 (a1 : Record) (b5 : Record) (x25 : Int) : Option Int :=
  (ref14_Valid b5).bind fun rv27 =>
  (if rv27 = true then
    (ref14_Time b5 0).bind fun rv434 =>
    ref14_Compare_j2 a1 b5 x25 rv434
  else
    ref14_Compare_j2 a1 b5 x25 0)
noncomputable def ref14_Compare (a1 : Record) (b5 : Record) : Option Int :=
  (ref14_Valid a1).bind fun rv12 =>
  (if rv12 = true then
    (ref14_Time a1 0).bind fun rv441 =>
    ref14_Compare_j1 a1 b5 rv441
  else
    ref14_Compare_j1 a1 b5 0)

-- seismonet/seismonetref14.Better
noncomputable def ref14_Better_l2 (a1 : Record) (b5 : Record) (rv12 : Int) (rv14 : Int) (rv16 : Int) (sv47 : Int) : Option (Int ⊕ Bool) :=
  (if (decide (sv47 < 3)) = true then
    (ix ([rv12, rv14, rv16] : List Int) sv47).bind fun x72 =>
    (if (x72 != 0) = true then
      some (Sum.inr (decide (x72 < 0)))
    else
      some (Sum.inl (w64 (sv47 + 1))))
  else
    Option.map Sum.inr ((ref14_Compare a1 b5).bind fun rv77 =>
    some (decide (rv77 < 0))))
noncomputable def ref14_Better (a1 : Record) (b5 : Record) : Option Bool :=
  (ref14_number a1.Error b5.Error).bind fun rv12 =>
  (ref14_number b5.Run a1.Run).bind fun rv14 =>
  (ref14_number b5.Seq a1.Seq).bind fun rv16 =>
  whileM (ref14_Better_l2 a1 b5 rv12 rv14 rv16) (0)

-- seismonet/seismonetref14.Follows
noncomputable def ref14_Follows (a1 : Record) (b5 : Record) (tolerance9 : Int) : Option Bool :=
  (ref14_Valid a1).bind fun rv13 =>
  ((if (!rv13) = true then
    some true
  else
    (ref14_Valid b5).bind fun rv28 =>
    some (!rv28))).bind fun c25 =>
  ((if ((c25 || (!((a1.Source.Network == b5.Source.Network) && ((a1.Source.Station == b5.Source.Station) && ((a1.Source.Location == b5.Source.Location) && ((a1.Source.Channel == b5.Source.Channel) && true)))))) || (!((a1.Rate.Num == b5.Rate.Num) && ((a1.Rate.Den == b5.Rate.Den) && true)))) = true then
    some true
  else
    (ref01_In tolerance9 0 9007199254740992).bind fun rv45 =>
    some (!rv45))).bind fun c42 =>
  (if c42 = true then
    some false
  else
    (ref14_Time b5 0).bind fun rv53 =>
    (ref14_Time a1 (a1.Samples.length : Int)).bind fun rv55 =>
    (some (w64 (rv53 - rv55))).bind fun d57 =>
    (ref01_In d57 (w64 (0 - tolerance9)) tolerance9).bind fun rv68 =>
    some rv68)

-- seismonet/seismonetlaw14.RecordExact
noncomputable def law14_RecordExact_l29 (raw5 : Record) (k11 : Int) (rv57 : (Record × Dice)) (x162 : ByteArray) (x163 : ByteArray) (x164 : ByteArray) (x165 : ByteArray) (x166 : Int) (x167 : Int) (x168 : Int) (x169 : Int) (x170 : Int) (x171 : Int) (x172 : Int) (x173 : (List Int)) (sv2352 : ((List Int) × Int × Int)) (x5230 : Record) (rv5911 : (Int × Dice)) (sv6889 : Int) : Option (Int ⊕ (((List Int) × Int × Int) ⊕ Bool)) :=
  (if (decide (sv6889 < (([rv57.1, (⟨(⟨x162, x163, x164, x165⟩ : SourceID), x166, x167, (⟨x168, x169⟩ : Rate), x170, x171, x172, x173⟩ : Record), raw5] : List Record).length : Int))) = true then
    (ix ([rv57.1, (⟨(⟨x162, x163, x164, x165⟩ : SourceID), x166, x167, (⟨x168, x169⟩ : Rate), x170, x171, x172, x173⟩ : Record), raw5] : List Record) sv6889).bind fun x7043 =>
    (record_Compare x5230 x7043).bind fun rv7056 =>
    (ref14_Compare x5230 x7043).bind fun rv7058 =>
    (if (rv7056 != rv7058) = true then
      some true
    else
      (record_Better x5230 x7043).bind fun rv7060 =>
      (ref14_Better x5230 x7043).bind fun rv7062 =>
      some (!(rv7060 == rv7062))).bind fun c7063 =>
    (if c7063 = true then
      some true
    else
      (record_Same x5230 x7043).bind fun rv7065 =>
      (ref14_Same x5230 x7043).bind fun rv7067 =>
      some (!(rv7065 == rv7067))).bind fun c7068 =>
    (if c7068 = true then
      some true
    else
      (record_Follows x5230 x7043 k11).bind fun rv7070 =>
      (ref14_Follows x5230 x7043 k11).bind fun rv7072 =>
      some (!(rv7070 == rv7072))).bind fun c7073 =>
    (if c7073 = true then
      some (Sum.inr (Sum.inr false))
    else
      some (Sum.inl (w64 (sv6889 + 1))))
  else
    Option.map Sum.inr (some (Sum.inl (rv5911.2.L, rv5911.2.At, (w64 (sv2352.2.2 + 1))))))
noncomputable def law14_RecordExact_l27 (raw5 : Record) (i9 : Int) (j10 : Int) (k11 : Int) (rv57 : (Record × Dice)) (x162 : ByteArray) (x163 : ByteArray) (x164 : ByteArray) (x165 : ByteArray) (x166 : Int) (x167 : Int) (x168 : Int) (x169 : Int) (x170 : Int) (x171 : Int) (x172 : Int) (x173 : (List Int)) (sv2352 : ((List Int) × Int × Int)) (x5230 : Record) (rv5243 : (Span × Int)) (rv5905 : (Int × Dice)) (rv5911 : (Int × Dice)) (sv6244 : Int) : Option (Int ⊕ (((List Int) × Int × Int) ⊕ Bool)) :=
  (if (decide (sv6244 < (([(⟨i9, j10⟩ : (Arr2 Int)), (⟨(w64 (1000000000000 + (w64 (500000 * rv5905.1)))), (w64 (1000000000000 + (w64 (500000 * rv5911.1))))⟩ : (Arr2 Int)), (⟨rv5243.1.From, rv5243.1.To⟩ : (Arr2 Int))] : List (Arr2 Int)).length : Int))) = true then
    (ix ([(⟨i9, j10⟩ : (Arr2 Int)), (⟨(w64 (1000000000000 + (w64 (500000 * rv5905.1)))), (w64 (1000000000000 + (w64 (500000 * rv5911.1))))⟩ : (Arr2 Int)), (⟨rv5243.1.From, rv5243.1.To⟩ : (Arr2 Int))] : List (Arr2 Int)) sv6244).bind fun x6670 =>
    (record_Cut x5230 x6670.e0 x6670.e1).bind fun rv6679 =>
    (ref14_Cut x5230 x6670.e0 x6670.e1).bind fun rv6691 =>
    (record_Inside x5230 x6670.e0 x6670.e1).bind fun rv6703 =>
    (ref14_Inside x5230 x6670.e0 x6670.e1).bind fun rv6715 =>
    ((if ((!(rv6679.2.1 == rv6691.2.1)) || (rv6679.2.2 != rv6691.2.2)) = true then
      some true
    else
      (ref14_Same rv6679.1 rv6691.1).bind fun rv6739 =>
      some (!rv6739))).bind fun c6736 =>
    ((if ((c6736 || (!(rv6703.2.1 == rv6715.2.1))) || (rv6703.2.2 != rv6715.2.2)) = true then
      some true
    else
      (ref14_Same rv6703.1 rv6715.1).bind fun rv6760 =>
      some (!rv6760))).bind fun c6757 =>
    (if c6757 = true then
      some (Sum.inr (Sum.inr false))
    else
      some (Sum.inl (w64 (sv6244 + 1))))
  else
    Option.map Sum.inr (whileM (law14_RecordExact_l29 raw5 k11 rv57 x162 x163 x164 x165 x166 x167 x168 x169 x170 x171 x172 x173 sv2352 x5230 rv5911) (0)))
noncomputable def law14_RecordExact_l25 (raw5 : Record) (i9 : Int) (j10 : Int) (k11 : Int) (rv57 : (Record × Dice)) (x162 : ByteArray) (x163 : ByteArray) (x164 : ByteArray) (x165 : ByteArray) (x166 : Int) (x167 : Int) (x168 : Int) (x169 : Int) (x170 : Int) (x171 : Int) (x172 : Int) (x173 : (List Int)) (sv2352 : ((List Int) × Int × Int)) (x5230 : Record) (rv5243 : (Span × Int)) (rv5299 : (Int × Dice)) (rv5305 : (Int × Dice)) (sv5539 : Int) : Option (Int ⊕ (((List Int) × Int × Int) ⊕ Bool)) :=
  (if (decide (sv5539 < (([(⟨i9, j10⟩ : (Arr2 Int)), (⟨(w64 (rv5299.1 - 1)), rv5305.1⟩ : (Arr2 Int)), (⟨0, (x5230.Samples.length : Int)⟩ : (Arr2 Int))] : List (Arr2 Int)).length : Int))) = true then
    (ix ([(⟨i9, j10⟩ : (Arr2 Int)), (⟨(w64 (rv5299.1 - 1)), rv5305.1⟩ : (Arr2 Int)), (⟨0, (x5230.Samples.length : Int)⟩ : (Arr2 Int))] : List (Arr2 Int)) sv5539).bind fun x5833 =>
    (record_At x5230 x5833.e0).bind fun rv5842 =>
    (ref14_At x5230 x5833.e0).bind fun rv5848 =>
    (record_Sub x5230 x5833.e0 x5833.e1).bind fun rv5854 =>
    (ref14_Sub x5230 x5833.e0 x5833.e1).bind fun rv5866 =>
    ((if (((rv5842.1 != rv5848.1) || (rv5842.2 != rv5848.2)) || (rv5854.2 != rv5866.2)) = true then
      some true
    else
      (ref14_Same rv5854.1 rv5866.1).bind fun rv5891 =>
      some (!rv5891))).bind fun c5888 =>
    (if c5888 = true then
      some (Sum.inr (Sum.inr false))
    else
      some (Sum.inl (w64 (sv5539 + 1))))
  else
    Option.map Sum.inr ((made_Dice_Next rv5305.2 30).bind fun rv5905 =>
    (made_Dice_Next rv5905.2 40).bind fun rv5911 =>
    whileM (law14_RecordExact_l27 raw5 i9 j10 k11 rv57 x162 x163 x164 x165 x166 x167 x168 x169 x170 x171 x172 x173 sv2352 x5230 rv5243 rv5905 rv5911) (0)))
noncomputable def law14_RecordExact_l31 (rv57 : (Record × Dice)) (x162 : ByteArray) (x163 : ByteArray) (x164 : ByteArray) (x165 : ByteArray) (x166 : Int) (x167 : Int) (x168 : Int) (x169 : Int) (x170 : Int) (x171 : Int) (x172 : Int) (x173 : (List Int)) (sv7364 : Int) : Option (Int ⊕ Bool) :=
  (if (decide (sv7364 < (([0, 250000, 3000000, 9007199254740992] : List Int).length : Int))) = true then
    (ix ([0, 250000, 3000000, 9007199254740992] : List Int) sv7364).bind fun x7458 =>
    (record_Follows rv57.1 (⟨(⟨x162, x163, x164, x165⟩ : SourceID), x166, x167, (⟨x168, x169⟩ : Rate), x170, x171, x172, x173⟩ : Record) x7458).bind fun rv7466 =>
    (ref14_Follows rv57.1 (⟨(⟨x162, x163, x164, x165⟩ : SourceID), x166, x167, (⟨x168, x169⟩ : Rate), x170, x171, x172, x173⟩ : Record) x7458).bind fun rv7468 =>
    (if (!(rv7466 == rv7468)) = true then
      some true
    else
      (record_Follows (⟨(⟨x162, x163, x164, x165⟩ : SourceID), x166, x167, (⟨x168, x169⟩ : Rate), x170, x171, x172, x173⟩ : Record) rv57.1 x7458).bind fun rv7470 =>
      (ref14_Follows (⟨(⟨x162, x163, x164, x165⟩ : SourceID), x166, x167, (⟨x168, x169⟩ : Rate), x170, x171, x172, x173⟩ : Record) rv57.1 x7458).bind fun rv7472 =>
      some (!(rv7470 == rv7472))).bind fun c7473 =>
    (if c7473 = true then
      some (Sum.inr false)
    else
      some (Sum.inl (w64 (sv7364 + 1))))
  else
    Option.map Sum.inr ((law14_sane).bind fun rv7510 =>
    some rv7510))
noncomputable def law14_RecordExact_l17 (raw5 : Record) (i9 : Int) (j10 : Int) (k11 : Int) (rv57 : (Record × Dice)) (x162 : ByteArray) (x163 : ByteArray) (x164 : ByteArray) (x165 : ByteArray) (x166 : Int) (x167 : Int) (x168 : Int) (x169 : Int) (x170 : Int) (x171 : Int) (x172 : Int) (x173 : (List Int)) (rv175 : (Record × Dice)) (sv2352 : ((List Int) × Int × Int)) : Option (((List Int) × Int × Int) ⊕ Bool) :=
  (if (decide (sv2352.2.2 < (([rv57.1, (⟨(⟨x162, x163, x164, x165⟩ : SourceID), x166, x167, (⟨x168, x169⟩ : Rate), x170, x171, x172, x173⟩ : Record), rv175.1, raw5] : List Record).length : Int))) = true then
    (ix ([rv57.1, (⟨(⟨x162, x163, x164, x165⟩ : SourceID), x166, x167, (⟨x168, x169⟩ : Rate), x170, x171, x172, x173⟩ : Record), rv175.1, raw5] : List Record) sv2352.2.2).bind fun x5230 =>
    (record_Span x5230).bind fun rv5243 =>
    (ref14_Span x5230).bind fun rv5250 =>
    (if ((!((rv5243.1.From == rv5250.1.From) && ((rv5243.1.To == rv5250.1.To) && true))) || (rv5243.2 != rv5250.2)) = true then
      some true
    else
      (record_Valid x5230).bind fun rv5257 =>
      (ref14_Valid x5230).bind fun rv5259 =>
      some (!(rv5257 == rv5259))).bind fun c5260 =>
    (if c5260 = true then
      some (Sum.inr false)
    else
      (made_Dice_Next (⟨sv2352.1, sv2352.2.1⟩ : Dice) 10).bind fun rv5299 =>
      (made_Dice_Next rv5299.2 10).bind fun rv5305 =>
      whileM (law14_RecordExact_l25 raw5 i9 j10 k11 rv57 x162 x163 x164 x165 x166 x167 x168 x169 x170 x171 x172 x173 sv2352 x5230 rv5243 rv5299 rv5305) (0))
  else
    Option.map Sum.inr (whileM (law14_RecordExact_l31 rv57 x162 x163 x164 x165 x166 x167 x168 x169 x170 x171 x172 x173) (0)))
noncomputable def law14_RecordExact_j1 (raw5 : Record) (i9 : Int) (j10 : Int) (k11 : Int) (rv57 : (Record × Dice)) (x160 : (List Int)) (x161 : Int) (x162 : ByteArray) (x163 : ByteArray) (x164 : ByteArray) (x165 : ByteArray) (x166 : Int) (x167 : Int) (x168 : Int) (x169 : Int) (x170 : Int) (x171 : Int) (x172 : Int) (x173 : (List Int)) : Option Bool :=
  (made_Dice_OddRecord (⟨x160, x161⟩ : Dice) rv57.1).bind fun rv175 =>
  whileM (law14_RecordExact_l17 raw5 i9 j10 k11 rv57 x162 x163 x164 x165 x166 x167 x168 x169 x170 x171 x172 x173 rv175) (rv175.2.L, rv175.2.At, 0)
noncomputable def law14_RecordExact (t1 : (List Int)) (raw5 : Record) (i9 : Int) (j10 : Int) (k11 : Int) : Option Bool :=
  (made_Light t1).bind fun rv14 =>
  (if ((!rv14) || (decide (100 < (raw5.Samples.length : Int)))) = true then
    (law14_sane).bind fun rv29 =>
    some rv29
  else
    (made_Roll t1).bind fun rv35 =>
    (made_Dice_Source rv35).bind fun rv46 =>
    (made_Dice_Record rv46.2 rv46.1 8).bind fun rv57 =>
    (made_Dice_Record rv57.2 rv46.1 8).bind fun rv68 =>
    (made_Dice_Next rv68.2 4).bind fun rv106 =>
    (if (rv106.1 == 0) = true then
      (appM 8 ([] : List Int) rv57.1.Samples).bind fun l7521 =>
      (made_Dice_Next rv106.2 (l7521.length : Int)).bind fun rv7526 =>
      (ix l7521 rv7526.1).bind fun x7533 =>
      (ix l7521 rv7526.1).bind fun x7546 =>
      (setM l7521 rv7526.1 (w64 (x7533 + 1))).bind fun l7554 =>
      law14_RecordExact_j1 raw5 i9 j10 k11 rv57 rv7526.2.L rv7526.2.At rv57.1.Source.Network rv57.1.Source.Station rv57.1.Source.Location rv57.1.Source.Channel rv57.1.Start rv57.1.First rv57.1.Rate.Num rv57.1.Rate.Den rv57.1.Error rv57.1.Run rv57.1.Seq l7554
    else
      law14_RecordExact_j1 raw5 i9 j10 k11 rv57 rv106.2.L rv106.2.At rv68.1.Source.Network rv68.1.Source.Station rv68.1.Source.Location rv68.1.Source.Channel rv68.1.Start rv68.1.First rv68.1.Rate.Num rv68.1.Rate.Den rv68.1.Error rv68.1.Run rv68.1.Seq rv68.1.Samples))

end Go.Proofs.Ytdifjkamipeibaa.Sh

/- Each Go function as a plain program over lists and numbers (none: a panic, or no end). Printed by a program of ours out of the translation. -/
import Derived.Test.YtmlekplbmfengaaGreatShData
import Derived.Test.YtmlekplbmfengaaGreatLibT
namespace Go.Proofs.YtmlekplbmfengaaGreat.Sh
open Go
set_option linter.unusedVariables false
-- seismonet/seismonetmade.Light
noncomputable def made_Light (l1 : (List Int)) : Option Bool :=
  some (decide ((l1.length : Int) ≤ 500))
-- seismonet/detector.Valid
noncomputable def detector_Valid (d1 : Detector) : Option Bool :=
  some ((((((decide (1 ≤ d1.Short)) && (decide (d1.Short < d1.Long))) && (decide (d1.Long ≤ 512))) && (decide (1 ≤ d1.Off))) && (decide (d1.Off ≤ d1.On))) && (decide (d1.On ≤ 10000)))
-- seismonet/picker.in
noncomputable def picker_in (n1 : Int) (low2 : Int) (high3 : Int) : Option Bool :=
  some ((decide (low2 ≤ n1)) && (decide (n1 ≤ high3)))
-- seismonet/picker.Valid
noncomputable def picker_Valid (p1 : Picking) : Option Bool :=
  (detector_Valid p1.Detector).bind fun rv4 =>
  ((if rv4 = true then
    (picker_in p1.Back 0 512).bind fun rv21 =>
    some rv21
  else
    some false)).bind fun c18 =>
  ((if c18 = true then
    (picker_in p1.Level 0 10000).bind fun rv38 =>
    some rv38
  else
    some false)).bind fun c35 =>
  ((if c35 = true then
    (picker_in p1.Floor 0 1073741823).bind fun rv55 =>
    some rv55
  else
    some false)).bind fun c52 =>
  some c52
-- slices.IndexFunc[[]int,int]
noncomputable def slices_IndexFunc_Lint_int_l2 (s1 : (List Int)) (f5 : Int → Option Bool) (sv78 : Int) : Option (Int ⊕ Int) :=
  (if (decide (sv78 < (s1.length : Int))) = true then
    (ix s1 sv78).bind fun x172 =>
    (f5 x172).bind fun rv184 =>
    (if rv184 = true then
      some (Sum.inr sv78)
    else
      some (Sum.inl (w64 (sv78 + 1))))
  else
    Option.map Sum.inr (some (-1)))
noncomputable def slices_IndexFunc_Lint_int (s1 : (List Int)) (f5 : Int → Option Bool) : Option Int :=
  whileM (slices_IndexFunc_Lint_int_l2 s1 f5) (0)
-- slices.ContainsFunc[[]int,int]
noncomputable def slices_ContainsFunc_Lint_int (s1 : (List Int)) (f5 : Int → Option Bool) : Option Bool :=
  (slices_IndexFunc_Lint_int s1 f5).bind fun rv11 =>
  some (decide (0 ≤ rv11))
-- seismonet/detector.in
noncomputable def detector_in (n1 : Int) (low2 : Int) (high3 : Int) : Option Bool :=
  some ((decide (low2 ≤ n1)) && (decide (n1 ≤ high3)))
-- seismonet/detector.wrong
noncomputable def detector_wrong (n1 : Int) : Option Bool :=
  (detector_in n1 (-1073741823) 1073741823).bind fun rv3 =>
  some (!rv3)
-- seismonet/detector.abs
noncomputable def detector_abs (n1 : Int) : Option Int :=
  (some (max n1 (w64 (0 - n1)))).bind fun x3 =>
  some x3
-- seismonet/detector.sum
noncomputable def detector_sum_l1 (l1 : (List Int)) (sv5 : (Int × Int)) : Option ((Int × Int) ⊕ Int) :=
  (if (decide (sv5.2 < (l1.length : Int))) = true then
    (ix l1 sv5.2).bind fun x108 =>
    (detector_abs x108).bind fun rv120 =>
    (some (w64 (sv5.1 + rv120))).bind fun n127 =>
    some (Sum.inl (n127, (w64 (sv5.2 + 1))))
  else
    some (Sum.inr sv5.1))
noncomputable def detector_sum (l1 : (List Int)) : Option Int :=
  (whileM (detector_sum_l1 l1) (0, 0)).bind fun e80 =>
  some e80
-- seismonet/detector.Ratio
noncomputable def detector_Ratio (d1 : Detector) (samples2 : (List Int)) (i6 : Int) : Option (Int × Int × Int) :=
  (detector_Valid d1).bind fun rv43 =>
  (if (!rv43) = true then
    some (0, 0, 1)
  else
    (if (decide (65536 < (samples2.length : Int))) = true then
      some (0, 0, 8)
    else
      (slices_ContainsFunc_Lint_int samples2 detector_wrong).bind fun rv105 =>
      ((if rv105 = true then
        some true
      else
        (detector_in i6 (w64 (d1.Long - 1)) (w64 ((samples2.length : Int) - 1))).bind fun rv122 =>
        some (!rv122))).bind fun c119 =>
      (if c119 = true then
        some (0, 0, 2)
      else
        (subM samples2 (w64 ((w64 (i6 - d1.Short)) + 1)) (w64 (i6 + 1))).bind fun l135 =>
        (detector_sum l135).bind fun rv137 =>
        (subM samples2 (w64 ((w64 (i6 - d1.Long)) + 1)) (w64 (i6 + 1))).bind fun l143 =>
        (detector_sum l143).bind fun rv145 =>
        some (rv137, rv145, 0))))
-- seismonet/picker.onset
noncomputable def picker_onset_l2 (p1 : Picking) (samples2 : (List Int)) (on6 : Int) (long7 : Int) (first10 : Int) (sv75 : Int) : Option (Int ⊕ Int) :=
  (if (decide (first10 ≤ sv75)) = true then
    (ix samples2 sv75).bind fun x159 =>
    (if (decide ((w64 ((w64 (100 * p1.Detector.Long)) * (max x159 (w64 (0 - x159))))) ≤ (w64 (p1.Level * long7)))) = true then
      (some (w64 (sv75 + 1))).bind fun x175 =>
      some (Sum.inr x175)
    else
      (some (w64 (sv75 - 1))).bind fun k178 =>
      some (Sum.inl k178))
  else
    Option.map Sum.inr ((some (min first10 on6)).bind fun x180 =>
    some x180))
noncomputable def picker_onset (p1 : Picking) (samples2 : (List Int)) (on6 : Int) (long7 : Int) : Option Int :=
  (some (max (w64 (on6 - p1.Back)) 0)).bind fun first10 =>
  (some (w64 (on6 - 1))).bind fun k12 =>
  whileM (picker_onset_l2 p1 samples2 on6 long7 first10) (k12)
-- seismonet/picker.Onset
noncomputable def picker_Onset (p1 : Picking) (samples2 : (List Int)) (t6 : Trigger) : Option (Int × Int) :=
  (picker_Valid p1).bind fun rv10 =>
  (if (!rv10) = true then
    some (0, 1)
  else
    (detector_Ratio p1.Detector samples2 t6.On).bind fun rv19 =>
    (if (rv19.2.2 != 0) = true then
      some (0, rv19.2.2)
    else
      (picker_onset p1 samples2 t6.On rv19.2.1).bind fun rv28 =>
      some (rv28, 0)))
-- seismonet/source.plain
noncomputable def source_plain (c1 : Int) : Option Bool :=
  some (((decide (65 ≤ c1)) && (decide (c1 ≤ 90))) || ((decide (48 ≤ c1)) && (decide (c1 ≤ 57))))
-- seismonet/source.code
noncomputable def source_code_l2 (s1 : ByteArray) (low2 : Int) (high3 : Int) (sv42 : Int) : Option (Int ⊕ Bool) :=
  (if (decide (sv42 < (s1.size : Int))) = true then
    (byteAt s1 sv42).bind fun c95 =>
    (source_plain c95).bind fun rv97 =>
    (if (!rv97) = true then
      some (Sum.inr false)
    else
      some (Sum.inl (w64 (sv42 + 1))))
  else
    Option.map Sum.inr (some ((decide (low2 ≤ (s1.size : Int))) && (decide ((s1.size : Int) ≤ high3)))))
noncomputable def source_code (s1 : ByteArray) (low2 : Int) (high3 : Int) : Option Bool :=
  whileM (source_code_l2 s1 low2 high3) (0)
-- seismonet/source.Valid
noncomputable def source_Valid (s1 : SourceID) : Option Bool :=
  (source_code s1.Network 1 2).bind fun rv4 =>
  ((if rv4 = true then
    (source_code s1.Station 1 5).bind fun rv21 =>
    some rv21
  else
    some false)).bind fun c18 =>
  ((if c18 = true then
    (source_code s1.Location 0 2).bind fun rv38 =>
    some rv38
  else
    some false)).bind fun c35 =>
  ((if (c35 && ((s1.Location.size : Int) != 1)) = true then
    (source_code s1.Channel 3 3).bind fun rv56 =>
    some rv56
  else
    some false)).bind fun c53 =>
  some c53
-- slices.IndexFunc[[]seismonet/api.Segment,seismonet/api.Segment]
noncomputable def slices_IndexFunc_Lapi_Segment_api_Segment_l2 (s1 : (List Segment)) (f5 : Segment → Option Bool) (sv90 : Int) : Option (Int ⊕ Int) :=
  (if (decide (sv90 < (s1.length : Int))) = true then
    (ix s1 sv90).bind fun x200 =>
    (f5 x200).bind fun rv216 =>
    (if rv216 = true then
      some (Sum.inr sv90)
    else
      some (Sum.inl (w64 (sv90 + 1))))
  else
    Option.map Sum.inr (some (-1)))
noncomputable def slices_IndexFunc_Lapi_Segment_api_Segment (s1 : (List Segment)) (f5 : Segment → Option Bool) : Option Int :=
  whileM (slices_IndexFunc_Lapi_Segment_api_Segment_l2 s1 f5) (0)
-- slices.ContainsFunc[[]seismonet/api.Segment,seismonet/api.Segment]
noncomputable def slices_ContainsFunc_Lapi_Segment_api_Segment (s1 : (List Segment)) (f5 : Segment → Option Bool) : Option Bool :=
  (slices_IndexFunc_Lapi_Segment_api_Segment s1 f5).bind fun rv11 =>
  some (decide (0 ≤ rv11))
-- seismonet/continuity.body
noncomputable def continuity_body (s1 : Segment) : Option Record :=
  some (⟨(⟨(⟨#[78]⟩ : ByteArray), (⟨#[83]⟩ : ByteArray), ByteArray.empty, (⟨#[67, 72, 65]⟩ : ByteArray)⟩ : SourceID), s1.Start, s1.First, s1.Rate, s1.Error, 0, 0, s1.Samples⟩ : Record)
-- seismonet/record.in
noncomputable def record_in (n1 : Int) (low2 : Int) (high3 : Int) : Option Bool :=
  some ((decide (low2 ≤ n1)) && (decide (n1 ≤ high3)))
-- seismonet/rate.in
noncomputable def rate_in (n1 : Int) (low2 : Int) (high3 : Int) : Option Bool :=
  some ((decide (low2 ≤ n1)) && (decide (n1 ≤ high3)))
-- seismonet/rate.gcd
noncomputable def rate_gcd_l1 (sv3 : (Int × Int)) : Option ((Int × Int) ⊕ Int) :=
  (if (sv3.2 != 0) = true then
    (remM sv3.1 sv3.2).bind fun rem29 =>
    some (Sum.inl (sv3.2, rem29))
  else
    some (Sum.inr sv3.1))
noncomputable def rate_gcd (a1 : Int) (b2 : Int) : Option Int :=
  (whileM (rate_gcd_l1) (a1, b2)).bind fun e21 =>
  some e21
-- seismonet/rate.Valid
noncomputable def rate_Valid (r1 : Rate) : Option Bool :=
  (rate_in r1.Num 1 4096).bind fun rv4 =>
  ((if rv4 = true then
    (rate_in r1.Den 1 4096).bind fun rv21 =>
    some rv21
  else
    some false)).bind fun c18 =>
  ((if c18 = true then
    (rate_gcd r1.Num r1.Den).bind fun rv38 =>
    some (rv38 == 1)
  else
    some false)).bind fun c35 =>
  some c35
-- seismonet/rate.micros
noncomputable def rate_micros (r1 : Rate) : Option Int :=
  (some (w64 (r1.Den * 1000000))).bind fun x4 =>
  some x4
-- seismonet/rate.after
noncomputable def rate_after (r1 : Rate) (k2 : Int) : Option Int :=
  (rate_micros r1).bind fun rv5 =>
  (quoM .i64 (w64 (k2 * rv5)) r1.Num).bind fun quo7 =>
  some quo7
-- seismonet/rate.Time
noncomputable def rate_Time (start1 : Int) (r2 : Rate) (k3 : Int) : Option (Int × Int) :=
  (rate_Valid r2).bind fun rv6 =>
  (if (!rv6) = true then
    some (0, 1)
  else
    (rate_in start1 0 9007199254740992).bind fun rv15 =>
    ((if (!rv15) = true then
      some true
    else
      (rate_in k3 0 16777216).bind fun rv32 =>
      some (!rv32))).bind fun c29 =>
    (if c29 = true then
      some (0, 2)
    else
      (rate_after r2 k3).bind fun rv41 =>
      (some (w64 (start1 + rv41))).bind fun x48 =>
      some (x48, 0)))
-- seismonet/record.Valid$1
noncomputable def record_Valid_fn1 (x1 : Int) : Option Bool :=
  (record_in x1 (-1073741823) 1073741823).bind fun rv3 =>
  some (!rv3)
-- seismonet/record.Valid
noncomputable def record_Valid (r1 : Record) : Option Bool :=
  (some (r1.Samples.length : Int)).bind fun n7 =>
  (source_Valid r1.Source).bind fun rv9 =>
  ((if (!rv9) = true then
    some true
  else
    (record_in n7 1 65536).bind fun rv26 =>
    some (!rv26))).bind fun c23 =>
  ((if c23 = true then
    some true
  else
    (record_in r1.First 0 (w64 (16777216 - n7))).bind fun rv43 =>
    some (!rv43))).bind fun c40 =>
  ((if c40 = true then
    some true
  else
    (record_in r1.Error 0 1099511627776).bind fun rv60 =>
    some (!rv60))).bind fun c57 =>
  ((if c57 = true then
    some true
  else
    (record_in r1.Run 0 65535).bind fun rv77 =>
    some (!rv77))).bind fun c74 =>
  ((if c74 = true then
    some true
  else
    (record_in r1.Seq 0 1073741824).bind fun rv94 =>
    some (!rv94))).bind fun c91 =>
  (if c91 = true then
    some false
  else
    (rate_Time r1.Start r1.Rate (w64 (r1.First + n7))).bind fun rv103 =>
    ((if ((rv103.2 == 0) && (decide (rv103.1 ≤ 9007199254740992))) = true then
      (slices_ContainsFunc_Lint_int r1.Samples record_Valid_fn1).bind fun rv121 =>
      some (!rv121)
    else
      some false)).bind fun c118 =>
    some c118)
-- seismonet/continuity.ValidSegment
noncomputable def continuity_ValidSegment (s1 : Segment) : Option Bool :=
  (continuity_body s1).bind fun rv7 =>
  (record_Valid rv7).bind fun rv17 =>
  some rv17
-- seismonet/picker.valid$1
noncomputable def picker_valid_fn1 (g1 : Segment) : Option Bool :=
  (continuity_ValidSegment g1).bind fun rv7 =>
  some (!rv7)
-- seismonet/picker.valid
noncomputable def picker_valid (p1 : Picking) (s2 : SourceID) (l3 : (List Segment)) : Option Bool :=
  (picker_Valid p1).bind fun rv10 =>
  ((if rv10 = true then
    (source_Valid s2).bind fun rv27 =>
    some rv27
  else
    some false)).bind fun c24 =>
  ((if c24 = true then
    (slices_ContainsFunc_Lapi_Segment_api_Segment l3 picker_valid_fn1).bind fun rv44 =>
    some (!rv44)
  else
    some false)).bind fun c41 =>
  some c41
-- seismonet/detector.Start
noncomputable def detector_Start (d1 : Detector) : Option (Watch × Int) :=
  (detector_Valid d1).bind fun rv5 =>
  (if (!rv5) = true then
    some ((⟨(⟨0, 0, 0, 0⟩ : Detector), ([] : List Int), 0, (⟨0, 0, 0⟩ : Trigger)⟩ : Watch), 1)
  else
    some ((⟨d1, ([] : List Int), 0, (⟨(-1), 0, 0⟩ : Trigger)⟩ : Watch), 0))
-- seismonet/detector.open
noncomputable def detector_open (wv1 : Watch) : Option Detector_window :=
  (some (wv1.Past.length : Int)).bind fun n7 =>
  (makeCM 8 (0 : Int) n7 (w64 (n7 + 512))).bind fun l9 =>
  (some (copyM l9 0 (l9.length : Int) wv1.Past)).bind fun l13 =>
  (subM l13 (max 0 (w64 ((w64 (n7 - wv1.Detector.Short)) + 1))) (l13.length : Int)).bind fun l24 =>
  (detector_sum l24).bind fun rv26 =>
  (detector_sum l13).bind fun rv28 =>
  some (⟨(⟨wv1.Detector, l13, wv1.Count, wv1.Open⟩ : Watch), rv26, rv28, ([] : List Trigger)⟩ : Detector_window)
-- seismonet/detector.reaches
noncomputable def detector_reaches (d1 : Detector) (short2 : Int) (long3 : Int) (p4 : Int) : Option Bool :=
  some ((long3 != 0) && (decide ((w64 ((w64 (p4 * d1.Short)) * long3)) ≤ (w64 ((w64 (100 * d1.Long)) * short2)))))
-- (*seismonet/detector.window).look
noncomputable def detector_window_look_j4 (wv1 : Detector_window) (x57 : Int) (x58 : Int) (x60 : (List Trigger)) (x63 : Int) (x90 : Int) (x117 : (List Int)) (x118 : Int) : Option Detector_window :=
  some (⟨(⟨wv1.Watch.Detector, x117, (w64 (wv1.Watch.Count + 1)), (⟨x57, x58, x63⟩ : Trigger)⟩ : Watch), x90, x118, x60⟩ : Detector_window)
noncomputable def detector_window_look_j3 (wv1 : Detector_window) (rv14 : Int) (x57 : Int) (x58 : Int) (x60 : (List Trigger)) (x63 : Int) (l67 : (List Int)) (x90 : Int) : Option Detector_window :=
  (if ((l67.length : Int) == wv1.Watch.Detector.Long) = true then
    (ix l67 0).bind fun x122 =>
    (subM l67 1 (l67.length : Int)).bind fun l139 =>
    detector_window_look_j4 wv1 x57 x58 x60 x63 x90 l139 (w64 ((w64 (wv1.long_ + rv14)) - x122))
  else
    detector_window_look_j4 wv1 x57 x58 x60 x63 x90 l67 (w64 (wv1.long_ + rv14)))
noncomputable def detector_window_look_j2 (wv1 : Detector_window) (rv14 : Int) (x57 : Int) (x58 : Int) (x60 : (List Trigger)) (x63 : Int) : Option Detector_window :=
  (appM 8 wv1.Watch.Past ([rv14] : List Int)).bind fun l67 =>
  (some (l67.length : Int)).bind fun n72 =>
  (if (decide (wv1.Watch.Detector.Short ≤ n72)) = true then
    (ix l67 (w64 (n72 - wv1.Watch.Detector.Short))).bind fun x143 =>
    detector_window_look_j3 wv1 rv14 x57 x58 x60 x63 l67 (w64 ((w64 (wv1.short_ + rv14)) - x143))
  else
    detector_window_look_j3 wv1 rv14 x57 x58 x60 x63 l67 (w64 (wv1.short_ + rv14)))
noncomputable def detector_window_look_j1 (wv1 : Detector_window) (rv14 : Int) (x57 : Int) (x58 : Int) (x59 : Int) (x60 : (List Trigger)) : Option Detector_window :=
  (if (decide (0 ≤ x57)) = true then
    detector_window_look_j2 wv1 rv14 x57 x58 x60 (max x59 rv14)
  else
    detector_window_look_j2 wv1 rv14 x57 x58 x60 x59)
noncomputable def detector_window_look_j5 (wv1 : Detector_window) (rv14 : Int) (x224 : Int) (x225 : Int) (x226 : Int) (x227 : (List Trigger)) : Option Detector_window :=
  detector_window_look_j1 wv1 rv14 x224 x225 x226 x227
noncomputable def detector_window_look_j6 (wv1 : Detector_window) (rv14 : Int) (x253 : Int) (x254 : Int) (x255 : Int) : Option Detector_window :=
  detector_window_look_j5 wv1 rv14 x253 x254 x255 wv1.ended_
noncomputable def detector_window_look (wv1 : Detector_window) (x11 : Int) : Option Detector_window :=
  (detector_abs x11).bind fun rv14 =>
  (if (decide (wv1.Watch.Detector.Long ≤ (w64 (wv1.Watch.Count + 1)))) = true then
    (if (decide (0 ≤ wv1.Watch.Open.On)) = true then
      (detector_reaches wv1.Watch.Detector (w64 (wv1.short_ + rv14)) (w64 (wv1.long_ + rv14)) wv1.Watch.Detector.Off).bind fun rv189 =>
      some (!rv189)
    else
      some false).bind fun c190 =>
    (if c190 = true then
      (appM 24 wv1.ended_ ([(⟨wv1.Watch.Open.On, (w64 ((w64 (wv1.Watch.Count + 1)) - 1)), wv1.Watch.Open.Peak⟩ : Trigger)] : List Trigger)).bind fun l232 =>
      detector_window_look_j5 wv1 rv14 (-1) 0 0 l232
    else
      (if (decide (wv1.Watch.Open.On < 0)) = true then
        (detector_reaches wv1.Watch.Detector (w64 (wv1.short_ + rv14)) (w64 (wv1.long_ + rv14)) wv1.Watch.Detector.On).bind fun rv238 =>
        some rv238
      else
        some false).bind fun c239 =>
      (if c239 = true then
        detector_window_look_j6 wv1 rv14 (w64 ((w64 (wv1.Watch.Count + 1)) - 1)) (-1) 0
      else
        detector_window_look_j6 wv1 rv14 wv1.Watch.Open.On wv1.Watch.Open.Off wv1.Watch.Open.Peak))
  else
    detector_window_look_j1 wv1 rv14 wv1.Watch.Open.On wv1.Watch.Open.Off wv1.Watch.Open.Peak wv1.ended_)
-- seismonet/detector.Run
noncomputable def detector_Run_l1 (samples2 : (List Int)) (sv88 : (Int × Int × Int × Int × (List Int) × Int × Int × Int × Int × Int × Int × (List Trigger) × Int)) : Option ((Int × Int × Int × Int × (List Int) × Int × Int × Int × Int × Int × Int × (List Trigger) × Int) ⊕ (Int × Int × Int × Int × (List Int) × Int × Int × Int × Int × Int × Int × (List Trigger))) :=
  (if (decide (sv88.2.2.2.2.2.2.2.2.2.2.2.2 < (samples2.length : Int))) = true then
    (ix samples2 sv88.2.2.2.2.2.2.2.2.2.2.2.2).bind fun x233 =>
    (detector_window_look (⟨(⟨(⟨sv88.1, sv88.2.1, sv88.2.2.1, sv88.2.2.2.1⟩ : Detector), sv88.2.2.2.2.1, sv88.2.2.2.2.2.1, (⟨sv88.2.2.2.2.2.2.1, sv88.2.2.2.2.2.2.2.1, sv88.2.2.2.2.2.2.2.2.1⟩ : Trigger)⟩ : Watch), sv88.2.2.2.2.2.2.2.2.2.1, sv88.2.2.2.2.2.2.2.2.2.2.1, sv88.2.2.2.2.2.2.2.2.2.2.2.1⟩ : Detector_window) x233).bind fun rv245 =>
    some (Sum.inl (rv245.Watch.Detector.Short, rv245.Watch.Detector.Long, rv245.Watch.Detector.On, rv245.Watch.Detector.Off, rv245.Watch.Past, rv245.Watch.Count, rv245.Watch.Open.On, rv245.Watch.Open.Off, rv245.Watch.Open.Peak, rv245.short_, rv245.long_, rv245.ended_, (w64 (sv88.2.2.2.2.2.2.2.2.2.2.2.2 + 1))))
  else
    some (Sum.inr (sv88.1, sv88.2.1, sv88.2.2.1, sv88.2.2.2.1, sv88.2.2.2.2.1, sv88.2.2.2.2.2.1, sv88.2.2.2.2.2.2.1, sv88.2.2.2.2.2.2.2.1, sv88.2.2.2.2.2.2.2.2.1, sv88.2.2.2.2.2.2.2.2.2.1, sv88.2.2.2.2.2.2.2.2.2.2.1, sv88.2.2.2.2.2.2.2.2.2.2.2.1)))
noncomputable def detector_Run_j2 (x273 : (List Trigger)) : Option ((List Trigger) × Int) :=
  (if (decide (1024 < (x273.length : Int))) = true then
    some (([] : List Trigger), 8)
  else
    some (x273, 0))
noncomputable def detector_Run (d1 : Detector) (samples2 : (List Int)) : Option ((List Trigger) × Int) :=
  (detector_Valid d1).bind fun rv25 =>
  (if (!rv25) = true then
    some (([] : List Trigger), 1)
  else
    (if (decide (65536 < (samples2.length : Int))) = true then
      some (([] : List Trigger), 8)
    else
      (slices_ContainsFunc_Lint_int samples2 detector_wrong).bind fun rv53 =>
      (if rv53 = true then
        some (([] : List Trigger), 2)
      else
        (detector_Start d1).bind fun rv62 =>
        (detector_open rv62.1).bind fun rv73 =>
        (whileM (detector_Run_l1 samples2) (rv73.Watch.Detector.Short, rv73.Watch.Detector.Long, rv73.Watch.Detector.On, rv73.Watch.Detector.Off, rv73.Watch.Past, rv73.Watch.Count, rv73.Watch.Open.On, rv73.Watch.Open.Off, rv73.Watch.Open.Peak, rv73.short_, rv73.long_, rv73.ended_, 0)).bind fun e193 =>
        (if (decide (0 ≤ e193.2.2.2.2.2.2.1)) = true then
          (appM 24 e193.2.2.2.2.2.2.2.2.2.2.2 ([(⟨e193.2.2.2.2.2.2.1, e193.2.2.2.2.2.2.2.1, e193.2.2.2.2.2.2.2.2.1⟩ : Trigger)] : List Trigger)).bind fun l280 =>
          detector_Run_j2 l280
        else
          detector_Run_j2 e193.2.2.2.2.2.2.2.2.2.2.2))))
-- seismonet/picker.pick$1
noncomputable def picker_pick_fn1 (i1 : Int) (x2 : Segment) : Option Int :=
  (rate_Time x2.Start x2.Rate (w64 (x2.First + i1))).bind fun rv9 =>
  some rv9.1
-- cmp.isNaN[int]
noncomputable def cmp_isNaN_int (x1 : Int) : Option Bool :=
  some (x1 != x1)
-- cmp.Compare[int]
noncomputable def cmp_Compare_int (x1 : Int) (y2 : Int) : Option Int :=
  (cmp_isNaN_int x1).bind fun rv4 =>
  (cmp_isNaN_int y2).bind fun rv11 =>
  (if rv4 = true then
    (if rv11 = true then
      some 0
    else
      some (-1))
  else
    (if rv11 = true then
      some 1
    else
      (if (decide (x1 < y2)) = true then
        some (-1)
      else
        (if (decide (y2 < x1)) = true then
          some 1
        else
          some 0))))
-- seismonet/picker.pick
noncomputable def picker_pick (p1 : Picking) (s2 : SourceID) (g3 : Segment) (t7 : Trigger) : Option Pick :=
  (picker_Onset p1 g3.Samples t7).bind fun rv14 =>
  (picker_pick_fn1 rv14.1 g3).bind fun rv21 =>
  (picker_pick_fn1 (max (w64 (rv14.1 - 1)) 0) g3).bind fun rv23 =>
  (picker_pick_fn1 t7.On g3).bind fun rv25 =>
  (ix g3.Samples rv14.1).bind fun x28 =>
  (cmp_Compare_int x28 0).bind fun rv40 =>
  some (⟨s2, rv21, (max 0 (w64 (rv23 - g3.Error))), (min (w64 (rv25 + g3.Error)) 18014398509481984), t7.Peak, rv40⟩ : Pick)
-- seismonet/picker.Segment
noncomputable def picker_Segment_j1 (sv34 : ((List Pick) × Int)) (out234 : (List Pick)) : Option (((List Pick) × Int) ⊕ (List Pick)) :=
  some (Sum.inl (out234, (w64 (sv34.2 + 1))))
noncomputable def picker_Segment_l1 (p1 : Picking) (s2 : SourceID) (g3 : Segment) (rv22 : ((List Trigger) × Int)) (sv34 : ((List Pick) × Int)) : Option (((List Pick) × Int) ⊕ (List Pick)) :=
  (if (decide (sv34.2 < (rv22.1.length : Int))) = true then
    (ix rv22.1 sv34.2).bind fun x202 =>
    (if ((x202.Off != (-1)) && (decide (p1.Floor ≤ x202.Peak))) = true then
      (picker_pick p1 s2 g3 x202).bind fun rv237 =>
      (appM 104 sv34.1 ([rv237] : List Pick)).bind fun l246 =>
      picker_Segment_j1 sv34 l246
    else
      picker_Segment_j1 sv34 sv34.1)
  else
    some (Sum.inr sv34.1))
noncomputable def picker_Segment (p1 : Picking) (s2 : SourceID) (g3 : Segment) : Option ((List Pick) × Int) :=
  (picker_valid p1 s2 ([g3] : List Segment)).bind fun rv13 =>
  (if (!rv13) = true then
    some (([] : List Pick), 1)
  else
    (detector_Run p1.Detector g3.Samples).bind fun rv22 =>
    (if (rv22.2 != 0) = true then
      some (([] : List Pick), rv22.2)
    else
      (whileM (picker_Segment_l1 p1 s2 g3 rv22) (([] : List Pick), 0)).bind fun e157 =>
      some (e157, 0)))
-- seismonet/seismonetlaw23.sane
noncomputable def law23_sane : Option Bool :=
  (picker_Onset (⟨(⟨1, 4, 200, 100⟩ : Detector), 2, 100, 0⟩ : Picking) ([1, 1, 1, 1, 9, 9, 1, 1] : List Int) (⟨4, 6, 0⟩ : Trigger)).bind fun rv5 =>
  (picker_Segment (⟨(⟨1, 4, 200, 100⟩ : Detector), 2, 100, 0⟩ : Picking) (⟨(⟨#[65]⟩ : ByteArray), (⟨#[66]⟩ : ByteArray), ByteArray.empty, (⟨#[72, 72, 90]⟩ : ByteArray)⟩ : SourceID) (⟨0, 0, (⟨1, 1⟩ : Rate), 10, ([1, 1, 1, 1, 9, 9, 1, 1] : List Int)⟩ : Segment)).bind fun rv13 =>
  (if ((((rv5.2 == 0) && (rv5.1 == 4)) && (rv13.2 == 0)) && ((rv13.1.length : Int) == 1)) = true then
    (ix rv13.1 0).bind fun x26 =>
    some (((x26.Source.Network == (⟨#[65]⟩ : ByteArray)) && ((x26.Source.Station == (⟨#[66]⟩ : ByteArray)) && ((x26.Source.Location == ByteArray.empty) && ((x26.Source.Channel == (⟨#[72, 72, 90]⟩ : ByteArray)) && true)))) && ((x26.Time == 4000000) && ((x26.Early == 2999990) && ((x26.Late == 4000010) && ((x26.Amplitude == 9) && ((x26.Polarity == 1) && true))))))
  else
    some false).bind fun c37 =>
  some c37
-- seismonet/seismonetmade.Roll
noncomputable def made_Roll (l1 : (List Int)) : Option Dice :=
  some (⟨l1, 0⟩ : Dice)
-- (*seismonet/seismonetmade.Dice).Next
noncomputable def made_Dice_Next_j1 (d1 : Dice) (x33 : Int) : Option (Int × Dice) :=
  some (x33, (⟨d1.L, (w64 (d1.At + 1))⟩ : Dice))
noncomputable def made_Dice_Next (d1 : Dice) (n6 : Int) : Option (Int × Dice) :=
  (if ((decide ((d1.L.length : Int) ≤ d1.At)) || (decide (n6 < 1))) = true then
    some (0, d1)
  else
    (ix d1.L d1.At).bind fun x15 =>
    (remM x15 n6).bind fun rem27 =>
    (if (decide (rem27 < 0)) = true then
      (some (w64 (rem27 + n6))).bind fun x36 =>
      made_Dice_Next_j1 d1 x36
    else
      made_Dice_Next_j1 d1 rem27))
-- (*seismonet/seismonetmade.Dice).Pick
noncomputable def made_Dice_Pick (d1 : Dice) (l6 : (List Int)) : Option (Int × Dice) :=
  (made_Dice_Next d1 (l6.length : Int)).bind fun rv11 =>
  (ix l6 rv11.1).bind fun x22 =>
  some (x22, rv11.2)
-- (*seismonet/seismonetmade.Dice).Detector
noncomputable def made_Dice_Detector (d1 : Dice) : Option (Detector × Dice) :=
  (made_Dice_Next d1 3).bind fun rv8 =>
  (some (w64 (1 + rv8.1))).bind fun short18 =>
  (made_Dice_Pick rv8.2 ([50, 100, 120] : List Int)).bind fun rv22 =>
  (made_Dice_Next rv22.2 6).bind fun rv33 =>
  (made_Dice_Pick rv33.2 ([0, 50, 100] : List Int)).bind fun rv45 =>
  some ((⟨short18, (w64 ((w64 (short18 + 1)) + rv33.1)), (w64 (rv22.1 + rv45.1)), rv22.1⟩ : Detector), rv45.2)
-- (*seismonet/seismonetmade.Dice).Picking
noncomputable def made_Dice_Picking (d1 : Dice) : Option (Picking × Dice) :=
  (made_Dice_Detector d1).bind fun rv8 =>
  (made_Dice_Next rv8.2 5).bind fun rv18 =>
  (made_Dice_Pick rv18.2 ([50, 100, 200] : List Int)).bind fun rv30 =>
  (made_Dice_Pick rv30.2 ([0, 0, 30] : List Int)).bind fun rv43 =>
  some ((⟨rv8.1, rv18.1, rv30.1, rv43.1⟩ : Picking), rv43.2)
-- (*seismonet/seismonetmade.Dice).Source
noncomputable def made_Dice_Source (d1 : Dice) : Option (SourceID × Dice) :=
  (made_Dice_Next d1 3).bind fun rv10 =>
  (ix ([(⟨#[71, 82]⟩ : ByteArray), (⟨#[88]⟩ : ByteArray), (⟨#[55, 65]⟩ : ByteArray)] : List ByteArray) rv10.1).bind fun x16 =>
  (made_Dice_Next rv10.2 4).bind fun rv26 =>
  (ix ([(⟨#[70, 85, 82]⟩ : ByteArray), (⟨#[65]⟩ : ByteArray), (⟨#[65, 66, 67, 68, 69]⟩ : ByteArray), (⟨#[70, 85]⟩ : ByteArray)] : List ByteArray) rv26.1).bind fun x32 =>
  (made_Dice_Next rv26.2 3).bind fun rv42 =>
  (ix ([(⟨#[]⟩ : ByteArray), (⟨#[48, 48]⟩ : ByteArray), (⟨#[49, 48]⟩ : ByteArray)] : List ByteArray) rv42.1).bind fun x48 =>
  (made_Dice_Next rv42.2 3).bind fun rv58 =>
  (ix ([(⟨#[72, 72, 90]⟩ : ByteArray), (⟨#[72, 72, 78]⟩ : ByteArray), (⟨#[66, 72, 90]⟩ : ByteArray)] : List ByteArray) rv58.1).bind fun x64 =>
  some ((⟨x16, x32, x48, x64⟩ : SourceID), rv58.2)
-- (*seismonet/seismonetmade.Dice).Wave
noncomputable def made_Dice_Wave_j2 (sv19 : ((List Int) × Int × (List Int) × Int × Int)) (x517 : (List Int)) (x518 : Int) (loud519 : Int) (x520 : Int) : Option (((List Int) × Int × (List Int) × Int × Int) ⊕ ((List Int) × Int × (List Int))) :=
  (appM 8 sv19.2.2.1 ([x520] : List Int)).bind fun l524 =>
  (some (w64 (sv19.2.2.2.2 - 1))).bind fun i529 =>
  some (Sum.inl (x517, x518, l524, loud519, i529))
noncomputable def made_Dice_Wave_j1 (sv19 : ((List Int) × Int × (List Int) × Int × Int)) (x474 : (List Int)) (x475 : Int) (loud476 : Int) : Option (((List Int) × Int × (List Int) × Int × Int) ⊕ ((List Int) × Int × (List Int))) :=
  (made_Dice_Next (⟨x474, x475⟩ : Dice) 5).bind fun rv478 =>
  (some (w64 (rv478.1 - 2))).bind fun x488 =>
  (if (decide (0 < loud476)) = true then
    (made_Dice_Next rv478.2 60).bind fun rv532 =>
    (made_Dice_Next rv532.2 2).bind fun rv542 =>
    (some (w64 ((w64 (rv532.1 + 20)) * (w64 (1 - (w64 (2 * rv542.1))))))).bind fun x552 =>
    (some (w64 (loud476 - 1))).bind fun loud554 =>
    made_Dice_Wave_j2 sv19 rv542.2.L rv542.2.At loud554 x552
  else
    made_Dice_Wave_j2 sv19 rv478.2.L rv478.2.At loud476 x488)
noncomputable def made_Dice_Wave_l1 (sv19 : ((List Int) × Int × (List Int) × Int × Int)) : Option (((List Int) × Int × (List Int) × Int × Int) ⊕ ((List Int) × Int × (List Int))) :=
  (if (decide (0 < sv19.2.2.2.2)) = true then
    ((if (sv19.2.2.2.1 == 0) = true then
      (made_Dice_Next (⟨sv19.1, sv19.2.1⟩ : Dice) 7).bind fun rv449 =>
      some (rv449.2.L, rv449.2.At, (rv449.1 == 0))
    else
      some (sv19.1, sv19.2.1, false))).bind fun c444 =>
    (if c444.2.2 = true then
      (made_Dice_Next (⟨c444.1, c444.2.1⟩ : Dice) 6).bind fun rv557 =>
      (some (w64 (1 + rv557.1))).bind fun loud567 =>
      made_Dice_Wave_j1 sv19 rv557.2.L rv557.2.At loud567
    else
      made_Dice_Wave_j1 sv19 c444.1 c444.2.1 sv19.2.2.2.1)
  else
    some (Sum.inr (sv19.1, sv19.2.1, sv19.2.2.1)))
noncomputable def made_Dice_Wave (d1 : Dice) (n6 : Int) : Option ((List Int) × Dice) :=
  (made_Dice_Next d1 n6).bind fun rv8 =>
  (some (w64 (1 + rv8.1))).bind fun i18 =>
  (whileM (made_Dice_Wave_l1) (rv8.2.L, rv8.2.At, ([] : List Int), 0, i18)).bind fun e329 =>
  some (e329.2.2, (⟨e329.1, e329.2.1⟩ : Dice))
-- (*seismonet/seismonetmade.Dice).Segment
noncomputable def made_Dice_Segment (d1 : Dice) (n6 : Int) : Option (Segment × Dice) :=
  (made_Dice_Next d1 3000000).bind fun rv9 =>
  (made_Dice_Pick rv9.2 ([0, 0, 5] : List Int)).bind fun rv21 =>
  (made_Dice_Pick rv21.2 ([1, 4, 20, 3] : List Int)).bind fun rv34 =>
  (made_Dice_Pick rv34.2 ([0, 10, 2000000] : List Int)).bind fun rv47 =>
  (made_Dice_Wave rv47.2 n6).bind fun rv58 =>
  some ((⟨(w64 (1000000000000 + rv9.1)), rv21.1, (⟨rv34.1, 1⟩ : Rate), rv47.1, rv58.1⟩ : Segment), rv58.2)
-- seismonet/seismonetref22.Valid
noncomputable def ref22_Valid (d1 : Detector) : Option Bool :=
  some ((((((decide (1 ≤ d1.Short)) && (decide (d1.Short < d1.Long))) && (decide (d1.Long ≤ 512))) && (decide (1 ≤ d1.Off))) && (decide (d1.Off ≤ d1.On))) && (decide (d1.On ≤ 10000)))
-- seismonet/seismonetref01.In
noncomputable def ref01_In (n1 : Int) (lo2 : Int) (hi3 : Int) : Option Bool :=
  some ((decide (lo2 ≤ n1)) && (decide (n1 ≤ hi3)))
-- seismonet/seismonetref05.Sample
noncomputable def ref05_Sample (n1 : Int) : Option Bool :=
  (ref01_In n1 (-1073741823) 1073741823).bind fun rv3 =>
  some rv3
-- seismonet/seismonetref05.InRange
noncomputable def ref05_InRange_l2 (l1 : (List Int)) (sv82 : Int) : Option (Int ⊕ Bool) :=
  (if (decide (sv82 < (l1.length : Int))) = true then
    (ix l1 sv82).bind fun x186 =>
    (ref05_Sample x186).bind fun rv198 =>
    (if (!rv198) = true then
      some (Sum.inr false)
    else
      (some (w64 (sv82 + 1))).bind fun i208 =>
      some (Sum.inl i208))
  else
    Option.map Sum.inr (some true))
noncomputable def ref05_InRange (l1 : (List Int)) : Option Bool :=
  whileM (ref05_InRange_l2 l1) (0)
-- seismonet/seismonetref22.Abs
noncomputable def ref22_Abs (n1 : Int) : Option Int :=
  (some (max n1 (w64 (0 - n1)))).bind fun x3 =>
  some x3
-- seismonet/seismonetref22.absolute
noncomputable def ref22_absolute_l1 (l1 : (List Int)) (sv5 : ((List Int) × Int)) : Option (((List Int) × Int) ⊕ (List Int)) :=
  (if (decide (sv5.2 < (l1.length : Int))) = true then
    (ix l1 sv5.2).bind fun x143 =>
    (ref22_Abs x143).bind fun rv155 =>
    (appM 8 sv5.1 ([rv155] : List Int)).bind fun l164 =>
    (some (w64 (sv5.2 + 1))).bind fun i169 =>
    some (Sum.inl (l164, i169))
  else
    some (Sum.inr sv5.1))
noncomputable def ref22_absolute (l1 : (List Int)) : Option (List Int) :=
  (whileM (ref22_absolute_l1 l1) (([] : List Int), 0)).bind fun e107 =>
  some e107
-- seismonet/seismonetref22.none
noncomputable def ref22_none : Option Trigger :=
  some (⟨(-1), 0, 0⟩ : Trigger)
-- seismonet/seismonetref22.sums
noncomputable def ref22_sums_j1 (sv8 : (Int × Int × Int)) (long153 : Int) (short166 : Int) : Option ((Int × Int × Int) ⊕ (Int × Int)) :=
  (some (w64 (sv8.2.2 + 1))).bind fun k168 =>
  some (Sum.inl (short166, long153, k168))
noncomputable def ref22_sums_l1 (d1 : Detector) (x2 : (List Int)) (i6 : Int) (sv8 : (Int × Int × Int)) : Option ((Int × Int × Int) ⊕ (Int × Int)) :=
  (if (decide (sv8.2.2 < d1.Long)) = true then
    (ix x2 (w64 (i6 - sv8.2.2))).bind fun x141 =>
    (some (w64 (sv8.2.1 + x141))).bind fun long153 =>
    (if (decide (sv8.2.2 < d1.Short)) = true then
      (ix x2 (w64 (i6 - sv8.2.2))).bind fun x172 =>
      (some (w64 (sv8.1 + x172))).bind fun short179 =>
      ref22_sums_j1 sv8 long153 short179
    else
      ref22_sums_j1 sv8 long153 sv8.1)
  else
    some (Sum.inr (sv8.1, sv8.2.1)))
noncomputable def ref22_sums (d1 : Detector) (x2 : (List Int)) (i6 : Int) : Option (Int × Int) :=
  (whileM (ref22_sums_l1 d1 x2 i6) (0, 0, 0)).bind fun e107 =>
  some (e107.1, e107.2)
-- seismonet/seismonetref22.reaches
noncomputable def ref22_reaches (d1 : Detector) (short2 : Int) (long3 : Int) (p4 : Int) : Option Bool :=
  some ((long3 != 0) && (decide ((w64 ((w64 (p4 * d1.Short)) * long3)) ≤ (w64 ((w64 (100 * d1.Long)) * short2)))))
-- seismonet/seismonetref22.step
noncomputable def ref22_step (d1 : Detector) (x2 : (List Int)) (i6 : Int) (number7 : Int) (open8 : Trigger) : Option (Trigger × Trigger × Bool) :=
  (ref22_sums d1 x2 i6).bind fun rv14 =>
  (if (decide (open8.On < 0)) = true then
    (ref22_reaches d1 rv14.1 rv14.2 d1.On).bind fun rv44 =>
    (if rv44 = true then
      (ix x2 i6).bind fun x67 =>
      some ((⟨number7, (-1), x67⟩ : Trigger), (⟨0, 0, 0⟩ : Trigger), false)
    else
      some (open8, (⟨0, 0, 0⟩ : Trigger), false))
  else
    (ref22_reaches d1 rv14.1 rv14.2 d1.Off).bind fun rv79 =>
    (if (!rv79) = true then
      (ref22_none).bind fun rv93 =>
      some (rv93, (⟨open8.On, number7, open8.Peak⟩ : Trigger), true)
    else
      (ix x2 i6).bind fun x102 =>
      some ((⟨open8.On, open8.Off, (max open8.Peak x102)⟩ : Trigger), (⟨0, 0, 0⟩ : Trigger), false)))
-- seismonet/seismonetref22.Run
noncomputable def ref22_Run_j1 (sv82 : (Int × Int × Int × (List Trigger) × Int)) (rv199 : (Trigger × Trigger × Bool)) (out219 : (List Trigger)) : Option ((Int × Int × Int × (List Trigger) × Int) ⊕ (Int × Int × Int × (List Trigger))) :=
  (some (w64 (sv82.2.2.2.2 + 1))).bind fun i221 =>
  some (Sum.inl (rv199.1.On, rv199.1.Off, rv199.1.Peak, out219, i221))
noncomputable def ref22_Run_l1 (d1 : Detector) (rv62 : (List Int)) (sv82 : (Int × Int × Int × (List Trigger) × Int)) : Option ((Int × Int × Int × (List Trigger) × Int) ⊕ (Int × Int × Int × (List Trigger))) :=
  (if (decide (sv82.2.2.2.2 < (rv62.length : Int))) = true then
    (ref22_step d1 rv62 sv82.2.2.2.2 sv82.2.2.2.2 (⟨sv82.1, sv82.2.1, sv82.2.2.1⟩ : Trigger)).bind fun rv199 =>
    (if rv199.2.2 = true then
      (appM 24 sv82.2.2.2.1 ([rv199.2.1] : List Trigger)).bind fun l226 =>
      ref22_Run_j1 sv82 rv199 l226
    else
      ref22_Run_j1 sv82 rv199 sv82.2.2.2.1)
  else
    some (Sum.inr (sv82.1, sv82.2.1, sv82.2.2.1, sv82.2.2.2.1)))
noncomputable def ref22_Run_j3 (out243 : (List Trigger)) : Option ((List Trigger) × Int) :=
  (if (decide (1024 < (out243.length : Int))) = true then
    some (([] : List Trigger), 8)
  else
    some (out243, 0))
noncomputable def ref22_Run (d1 : Detector) (samples2 : (List Int)) : Option ((List Trigger) × Int) :=
  (ref22_Valid d1).bind fun rv25 =>
  (if (!rv25) = true then
    some (([] : List Trigger), 1)
  else
    (if (decide (65536 < (samples2.length : Int))) = true then
      some (([] : List Trigger), 8)
    else
      (ref05_InRange samples2).bind fun rv53 =>
      (if (!rv53) = true then
        some (([] : List Trigger), 2)
      else
        (ref22_absolute samples2).bind fun rv62 =>
        (ref22_none).bind fun rv73 =>
        (some (w64 (d1.Long - 1))).bind fun i81 =>
        (whileM (ref22_Run_l1 d1 rv62) (rv73.On, rv73.Off, rv73.Peak, ([] : List Trigger), i81)).bind fun e169 =>
        (if (decide (0 ≤ e169.1)) = true then
          (appM 24 e169.2.2.2 ([(⟨e169.1, e169.2.1, e169.2.2.1⟩ : Trigger)] : List Trigger)).bind fun l250 =>
          ref22_Run_j3 l250
        else
          ref22_Run_j3 e169.2.2.2))))
-- seismonet/seismonetref23.Valid
noncomputable def ref23_Valid (p1 : Picking) : Option Bool :=
  (ref22_Valid p1.Detector).bind fun rv4 =>
  ((if rv4 = true then
    (ref01_In p1.Back 0 512).bind fun rv21 =>
    some rv21
  else
    some false)).bind fun c18 =>
  ((if c18 = true then
    (ref01_In p1.Level 0 10000).bind fun rv38 =>
    some rv38
  else
    some false)).bind fun c35 =>
  ((if c35 = true then
    (ref01_In p1.Floor 0 1073741823).bind fun rv55 =>
    some rv55
  else
    some false)).bind fun c52 =>
  some c52
-- seismonet/seismonetref22.Ratio
noncomputable def ref22_Ratio (d1 : Detector) (samples2 : (List Int)) (i6 : Int) : Option (Int × Int × Int) :=
  (ref22_Valid d1).bind fun rv43 =>
  (if (!rv43) = true then
    some (0, 0, 1)
  else
    (if (decide (65536 < (samples2.length : Int))) = true then
      some (0, 0, 8)
    else
      (ref05_InRange samples2).bind fun rv105 =>
      ((if (!rv105) = true then
        some true
      else
        (ref01_In i6 (w64 (d1.Long - 1)) (w64 ((samples2.length : Int) - 1))).bind fun rv122 =>
        some (!rv122))).bind fun c119 =>
      (if c119 = true then
        some (0, 0, 2)
      else
        (ref22_absolute samples2).bind fun rv131 =>
        (ref22_sums d1 rv131 i6).bind fun rv137 =>
        some (rv137.1, rv137.2, 0))))
-- seismonet/seismonetref23.Onset
noncomputable def ref23_Onset_l1 (p1 : Picking) (samples2 : (List Int)) (t6 : Trigger) (rv19 : (Int × Int × Int)) (sv29 : (Int × Int)) : Option ((Int × Int) ⊕ Int) :=
  (if ((decide (0 ≤ sv29.2)) && (decide ((w64 (t6.On - p1.Back)) ≤ sv29.2))) = true then
    (ix samples2 sv29.2).bind fun x125 =>
    (ref22_Abs x125).bind fun rv137 =>
    (if (decide ((w64 ((w64 (100 * p1.Detector.Long)) * rv137)) ≤ (w64 (p1.Level * rv19.2.1)))) = true then
      some (Sum.inr sv29.1)
    else
      (some (w64 (sv29.2 - 1))).bind fun i148 =>
      some (Sum.inl (sv29.2, i148)))
  else
    some (Sum.inr sv29.1))
noncomputable def ref23_Onset (p1 : Picking) (samples2 : (List Int)) (t6 : Trigger) : Option (Int × Int) :=
  (ref23_Valid p1).bind fun rv10 =>
  (if (!rv10) = true then
    some (0, 1)
  else
    (ref22_Ratio p1.Detector samples2 t6.On).bind fun rv19 =>
    (if (rv19.2.2 != 0) = true then
      some (0, rv19.2.2)
    else
      (some (w64 (t6.On - 1))).bind fun i28 =>
      (whileM (ref23_Onset_l1 p1 samples2 t6 rv19) (t6.On, i28)).bind fun e101 =>
      some (e101, 0)))
-- slices.Clone[[]seismonet/api.Pick,seismonet/api.Pick]
noncomputable def slices_Clone_Lapi_Pick_api_Pick (s1 : (List Pick)) : Option (List Pick) :=
  (appM 104 ([] : List Pick) s1).bind fun l11 =>
  some l11
-- slices.SortFunc[[]seismonet/api.Pick,seismonet/api.Pick]
noncomputable def slices_SortFunc_Lapi_Pick_api_Pick (x1 : (List Pick)) (cmp6 : Pick → Pick → Option Int) : Option (List Pick) :=
  sortP x1 cmp6
-- cmp.isNaN[string]
noncomputable def cmp_isNaN_string (x1 : ByteArray) : Option Bool :=
  some (!(x1.toList == x1.toList))
-- cmp.Compare[string]
noncomputable def cmp_Compare_string (x1 : ByteArray) (y2 : ByteArray) : Option Int :=
  (cmp_isNaN_string x1).bind fun rv4 =>
  (cmp_isNaN_string y2).bind fun rv11 =>
  (if rv4 = true then
    (if rv11 = true then
      some 0
    else
      some (-1))
  else
    (if rv11 = true then
      some 1
    else
      (if (Op.bytesLess x1.toList y2.toList) = true then
        some (-1)
      else
        (if (!((Op.bytesLess x1.toList y2.toList) || (x1.toList == y2.toList))) = true then
          some 1
        else
          some 0))))
-- cmp.Or[int]
noncomputable def cmp_Or_int_l2 (vals1 : (List Int)) (sv55 : Int) : Option (Int ⊕ Int) :=
  (if (decide (sv55 < (vals1.length : Int))) = true then
    (ix vals1 sv55).bind fun x125 =>
    (if (x125 != 0) = true then
      some (Sum.inr x125)
    else
      some (Sum.inl (w64 (sv55 + 1))))
  else
    Option.map Sum.inr (some 0))
noncomputable def cmp_Or_int (vals1 : (List Int)) : Option Int :=
  whileM (cmp_Or_int_l2 vals1) (0)
-- seismonet/source.Compare
noncomputable def source_Compare (a1 : SourceID) (b2 : SourceID) : Option Int :=
  (cmp_Compare_string a1.Network b2.Network).bind fun rv6 =>
  (cmp_Compare_string a1.Station b2.Station).bind fun rv8 =>
  (cmp_Compare_string a1.Location b2.Location).bind fun rv10 =>
  (cmp_Compare_string a1.Channel b2.Channel).bind fun rv12 =>
  (cmp_Or_int ([rv6, rv8, rv10, rv12] : List Int)).bind fun rv16 =>
  some rv16
-- seismonet/picker.Compare
noncomputable def picker_Compare (a1 : Pick) (b2 : Pick) : Option Int :=
  (source_Compare a1.Source b2.Source).bind fun rv6 =>
  (cmp_Compare_int a1.Time b2.Time).bind fun rv8 =>
  (cmp_Compare_int a1.Early b2.Early).bind fun rv10 =>
  (cmp_Compare_int a1.Late b2.Late).bind fun rv12 =>
  (cmp_Compare_int a1.Amplitude b2.Amplitude).bind fun rv14 =>
  (cmp_Compare_int a1.Polarity b2.Polarity).bind fun rv16 =>
  (cmp_Or_int ([rv6, rv8, rv10, rv12, rv14, rv16] : List Int)).bind fun rv20 =>
  some rv20
-- slices.Compact[[]seismonet/api.Pick,seismonet/api.Pick]
noncomputable def slices_Compact_Lapi_Pick_api_Pick_j1 (sv1662 : ((List Pick) × Int × Int)) (sv1912 : (List Pick)) (k1913 : Int) : Option (((List Pick) × Int × Int) ⊕ ((List Pick) × Int)) :=
  (some (w64 (sv1662.2.2 + 1))).bind fun k2_1915 =>
  some (Sum.inl (sv1912, k1913, k2_1915))
noncomputable def slices_Compact_Lapi_Pick_api_Pick_l11 (sv628 : Int) (l1661 : (List Pick)) (sv1662 : ((List Pick) × Int × Int)) : Option (((List Pick) × Int × Int) ⊕ ((List Pick) × Int)) :=
  (if (decide (sv1662.2.2 < (l1661.length : Int))) = true then
    (ixV sv1662.1 sv628 l1661.length sv1662.2.2).bind fun x1875 =>
    (ixV sv1662.1 sv628 l1661.length (w64 (sv1662.2.2 - 1))).bind fun x1883 =>
    (if (!(((x1875.Source.Network == x1883.Source.Network) && ((x1875.Source.Station == x1883.Source.Station) && ((x1875.Source.Location == x1883.Source.Location) && ((x1875.Source.Channel == x1883.Source.Channel) && true)))) && ((x1875.Time == x1883.Time) && ((x1875.Early == x1883.Early) && ((x1875.Late == x1883.Late) && ((x1875.Amplitude == x1883.Amplitude) && ((x1875.Polarity == x1883.Polarity) && true))))))) = true then
      (ixV sv1662.1 sv628 l1661.length sv1662.2.2).bind fun x1924 =>
      (ix sv1662.1 sv1662.2.1).bind fun x1927 =>
      (setM sv1662.1 sv1662.2.1 x1924).bind fun l1935 =>
      (some (w64 (sv1662.2.1 + 1))).bind fun k1940 =>
      slices_Compact_Lapi_Pick_api_Pick_j1 sv1662 l1935 k1940
    else
      slices_Compact_Lapi_Pick_api_Pick_j1 sv1662 sv1662.1 sv1662.2.1)
  else
    some (Sum.inr (sv1662.1, sv1662.2.1)))
noncomputable def slices_Compact_Lapi_Pick_api_Pick_l7 (s1 : (List Pick)) (sv628 : Int) : Option (Int ⊕ (List Pick)) :=
  (if (decide (sv628 < (s1.length : Int))) = true then
    (ix s1 sv628).bind fun x1456 =>
    (ix s1 (w64 (sv628 - 1))).bind fun x1469 =>
    (if (((x1456.Source.Network == x1469.Source.Network) && ((x1456.Source.Station == x1469.Source.Station) && ((x1456.Source.Location == x1469.Source.Location) && ((x1456.Source.Channel == x1469.Source.Channel) && true)))) && ((x1456.Time == x1469.Time) && ((x1456.Early == x1469.Early) && ((x1456.Late == x1469.Late) && ((x1456.Amplitude == x1469.Amplitude) && ((x1456.Polarity == x1469.Polarity) && true)))))) = true then
      (subM s1 sv628 (s1.length : Int)).bind fun l1661 =>
      (whileM (slices_Compact_Lapi_Pick_api_Pick_l11 sv628 l1661) (s1, sv628, 1)).bind fun e1817 =>
      (subM e1817.1 e1817.2 (e1817.1.length : Int)).bind fun l1946 =>
      (some (copyM e1817.1 e1817.2 (e1817.1.length : Int) (List.replicate l1946.length ((⟨(⟨ByteArray.empty, ByteArray.empty, ByteArray.empty, ByteArray.empty⟩ : SourceID), 0, 0, 0, 0, 0⟩ : Pick) : Pick)))).bind fun l1947 =>
      (subM l1947 0 e1817.2).bind fun l1956 =>
      some (Sum.inr l1956)
    else
      (some (w64 (sv628 + 1))).bind fun k1960 =>
      some (Sum.inl k1960))
  else
    Option.map Sum.inr (some s1))
noncomputable def slices_Compact_Lapi_Pick_api_Pick (s1 : (List Pick)) : Option (List Pick) :=
  (if (decide ((s1.length : Int) < 2)) = true then
    some s1
  else
    whileM (slices_Compact_Lapi_Pick_api_Pick_l7 s1) (1))
-- seismonet/picker.Sort
noncomputable def picker_Sort (l1 : (List Pick)) : Option (List Pick) :=
  (slices_Clone_Lapi_Pick_api_Pick l1).bind fun rv6 =>
  (slices_SortFunc_Lapi_Pick_api_Pick rv6 picker_Compare).bind fun rv17 =>
  (slices_Compact_Lapi_Pick_api_Pick rv17).bind fun rv29 =>
  some rv29
-- seismonet/picker.Run
noncomputable def picker_Run_l2 (p1 : Picking) (s2 : SourceID) (l3 : (List Segment)) (sv137 : ((List Pick) × Int)) : Option (((List Pick) × Int) ⊕ ((List Pick) × Int)) :=
  (if (decide (sv137.2 < (l3.length : Int))) = true then
    (ix l3 sv137.2).bind fun x297 =>
    (picker_Segment p1 s2 x297).bind fun rv314 =>
    (if (rv314.2 != 0) = true then
      some (Sum.inr (([] : List Pick), rv314.2))
    else
      (appM 104 sv137.1 rv314.1).bind fun l328 =>
      some (Sum.inl (l328, (w64 (sv137.2 + 1)))))
  else
    Option.map Sum.inr ((picker_Sort sv137.1).bind fun rv333 =>
    (if (decide (1024 < (rv333.length : Int))) = true then
      some (([] : List Pick), 8)
    else
      some (rv333, 0))))
noncomputable def picker_Run (p1 : Picking) (s2 : SourceID) (l3 : (List Segment)) : Option ((List Pick) × Int) :=
  (picker_valid p1 s2 l3).bind fun rv10 =>
  (if (!rv10) = true then
    some (([] : List Pick), 1)
  else
    whileM (picker_Run_l2 p1 s2 l3) (([] : List Pick), 0))
-- seismonet/seismonetref03.code
noncomputable def ref03_code_l2 (s1 : ByteArray) (lo2 : Int) (hi3 : Int) (sv111 : Int) : Option (Int ⊕ Bool) :=
  (if (decide (sv111 < (s1.size : Int))) = true then
    (byteAt s1 sv111).bind fun c254 =>
    ((if (decide (65 ≤ c254)) = true then
      (byteAt s1 sv111).bind fun c261 =>
      some (decide (c261 ≤ 90))
    else
      some false)).bind fun c258 =>
    ((if c258 = true then
      some true
    else
      (byteAt s1 sv111).bind fun c275 =>
      ((if (decide (48 ≤ c275)) = true then
        (byteAt s1 sv111).bind fun c282 =>
        some (true, (decide (c282 ≤ 57)))
      else
        some (false, false))).bind fun c279 =>
      some c279.2)).bind fun c272 =>
    (if (!c272) = true then
      some (Sum.inr false)
    else
      (some (w64 (sv111 + 1))).bind fun i287 =>
      some (Sum.inl i287))
  else
    Option.map Sum.inr (some ((decide (lo2 ≤ (s1.size : Int))) && (decide ((s1.size : Int) ≤ hi3)))))
noncomputable def ref03_code (s1 : ByteArray) (lo2 : Int) (hi3 : Int) : Option Bool :=
  whileM (ref03_code_l2 s1 lo2 hi3) (0)
-- seismonet/seismonetref03.Valid
noncomputable def ref03_Valid (s1 : SourceID) : Option Bool :=
  (ref03_code s1.Network 1 2).bind fun rv4 =>
  ((if rv4 = true then
    (ref03_code s1.Station 1 5).bind fun rv21 =>
    some rv21
  else
    some false)).bind fun c18 =>
  ((if c18 = true then
    ((if (s1.Location.toList == (⟨#[]⟩ : ByteArray).toList) = true then
      some true
    else
      (ref03_code s1.Location 2 2).bind fun rv58 =>
      some rv58)).bind fun c55 =>
    some c55
  else
    some false)).bind fun c45 =>
  ((if c45 = true then
    (ref03_code s1.Channel 3 3).bind fun rv75 =>
    some rv75
  else
    some false)).bind fun c72 =>
  some c72
-- seismonet/seismonetref16.asRecord
noncomputable def ref16_asRecord (s1 : Segment) : Option Record :=
  some (⟨(⟨(⟨#[65]⟩ : ByteArray), (⟨#[65]⟩ : ByteArray), ByteArray.empty, (⟨#[65, 65, 65]⟩ : ByteArray)⟩ : SourceID), s1.Start, s1.First, s1.Rate, s1.Error, 0, 0, s1.Samples⟩ : Record)
-- seismonet/seismonetref02.gcd
noncomputable def ref02_gcd_l1 (sv3 : (Int × Int)) : Option ((Int × Int) ⊕ Int) :=
  (if (sv3.2 != 0) = true then
    (remM sv3.1 sv3.2).bind fun rem29 =>
    some (Sum.inl (sv3.2, rem29))
  else
    some (Sum.inr sv3.1))
noncomputable def ref02_gcd (a1 : Int) (b2 : Int) : Option Int :=
  (whileM (ref02_gcd_l1) (a1, b2)).bind fun e21 =>
  some e21
-- seismonet/seismonetref02.Valid
noncomputable def ref02_Valid (r1 : Rate) : Option Bool :=
  (ref01_In r1.Num 1 4096).bind fun rv4 =>
  ((if rv4 = true then
    (ref01_In r1.Den 1 4096).bind fun rv21 =>
    some rv21
  else
    some false)).bind fun c18 =>
  ((if c18 = true then
    (ref02_gcd r1.Num r1.Den).bind fun rv38 =>
    some (rv38 == 1)
  else
    some false)).bind fun c35 =>
  some c35
-- seismonet/seismonetref02.Time
noncomputable def ref02_Time (start1 : Int) (r2 : Rate) (k3 : Int) : Option (Int × Int) :=
  (ref02_Valid r2).bind fun rv6 =>
  (if (!rv6) = true then
    some (0, 1)
  else
    (ref01_In start1 0 9007199254740992).bind fun rv15 =>
    ((if (!rv15) = true then
      some true
    else
      (ref01_In k3 0 16777216).bind fun rv32 =>
      some (!rv32))).bind fun c29 =>
    (if c29 = true then
      some (0, 2)
    else
      (quoM .i64 (w64 ((w64 (k3 * r2.Den)) * 1000000)) r2.Num).bind fun quo41 =>
      (some (w64 (start1 + quo41))).bind fun x43 =>
      some (x43, 0)))
-- seismonet/seismonetref14.Time
noncomputable def ref14_Time (r1 : Record) (i5 : Int) : Option Int :=
  (ref02_Time r1.Start r1.Rate (w64 (r1.First + i5))).bind fun rv8 =>
  some rv8.1
-- seismonet/seismonetref14.Valid
noncomputable def ref14_Valid (r1 : Record) : Option Bool :=
  (ref03_Valid r1.Source).bind fun rv7 =>
  ((if (!rv7) = true then
    some true
  else
    (ref02_Valid r1.Rate).bind fun rv24 =>
    some (!rv24))).bind fun c21 =>
  ((if c21 = true then
    some true
  else
    (ref01_In r1.Start 0 9007199254740992).bind fun rv41 =>
    some (!rv41))).bind fun c38 =>
  ((if c38 = true then
    some true
  else
    (ref01_In r1.First 0 16777216).bind fun rv58 =>
    some (!rv58))).bind fun c55 =>
  ((if c55 = true then
    some true
  else
    (ref01_In (r1.Samples.length : Int) 1 65536).bind fun rv75 =>
    some (!rv75))).bind fun c72 =>
  ((if (c72 || (decide (16777216 < (w64 (r1.First + (r1.Samples.length : Int)))))) = true then
    some true
  else
    (ref05_InRange r1.Samples).bind fun rv93 =>
    some (!rv93))).bind fun c90 =>
  (if c90 = true then
    some false
  else
    (ref01_In r1.Error 0 1099511627776).bind fun rv102 =>
    ((if rv102 = true then
      (ref01_In r1.Run 0 65535).bind fun rv119 =>
      some rv119
    else
      some false)).bind fun c116 =>
    ((if c116 = true then
      (ref01_In r1.Seq 0 1073741824).bind fun rv136 =>
      some rv136
    else
      some false)).bind fun c133 =>
    ((if c133 = true then
      (ref14_Time r1 (r1.Samples.length : Int)).bind fun rv153 =>
      some (decide (rv153 ≤ 9007199254740992))
    else
      some false)).bind fun c150 =>
    some c150)
-- seismonet/seismonetref16.ValidSegment
noncomputable def ref16_ValidSegment (s1 : Segment) : Option Bool :=
  (ref16_asRecord s1).bind fun rv7 =>
  (ref14_Valid rv7).bind fun rv17 =>
  some rv17
-- seismonet/seismonetref23.time
noncomputable def ref23_time (g1 : Segment) (i5 : Int) : Option Int :=
  (ref02_Time g1.Start g1.Rate (w64 (g1.First + i5))).bind fun rv8 =>
  some rv8.1
-- seismonet/seismonetref23.sign
noncomputable def ref23_sign (n1 : Int) : Option Int :=
  (if (decide (n1 < 0)) = true then
    some (-1)
  else
    (if (decide (0 < n1)) = true then
      some 1
    else
      some 0))
-- seismonet/seismonetref23.Segment
noncomputable def ref23_Segment_j1 (sv66 : ((List Pick) × Int)) (out449 : (List Pick)) : Option (((List Pick) × Int) ⊕ (List Pick)) :=
  (some (w64 (sv66.2 + 1))).bind fun i451 =>
  some (Sum.inl (out449, i451))
noncomputable def ref23_Segment_l1 (p1 : Picking) (s2 : SourceID) (g3 : Segment) (rv54 : ((List Trigger) × Int)) (sv66 : ((List Pick) × Int)) : Option (((List Pick) × Int) ⊕ (List Pick)) :=
  (if (decide (sv66.2 < (rv54.1.length : Int))) = true then
    (ix rv54.1 sv66.2).bind fun x454 =>
    (if (decide (x454.Off < 0)) = true then
      some true
    else
      (ix rv54.1 sv66.2).bind fun x467 =>
      some (decide (x467.Peak < p1.Floor))).bind fun c474 =>
    (if c474 = true then
      ref23_Segment_j1 sv66 sv66.1
    else
      (ix rv54.1 sv66.2).bind fun x492 =>
      (ref23_Onset p1 g3.Samples x492).bind fun rv500 =>
      (ref23_time g3 rv500.1).bind fun rv508 =>
      (ref23_time g3 (max (w64 (rv500.1 - 1)) 0)).bind fun rv510 =>
      (ix rv54.1 sv66.2).bind fun x513 =>
      (ref23_time g3 x513.On).bind fun rv521 =>
      (ix rv54.1 sv66.2).bind fun x524 =>
      (ix g3.Samples rv500.1).bind fun x533 =>
      (ref23_sign x533).bind fun rv545 =>
      (appM 104 sv66.1 ([(⟨s2, rv508, (max (w64 (rv510 - g3.Error)) 0), (min (w64 (rv521 + g3.Error)) 18014398509481984), x524.Peak, rv545⟩ : Pick)] : List Pick)).bind fun l549 =>
      ref23_Segment_j1 sv66 l549)
  else
    some (Sum.inr sv66.1))
noncomputable def ref23_Segment (p1 : Picking) (s2 : SourceID) (g3 : Segment) : Option ((List Pick) × Int) :=
  (ref23_Valid p1).bind fun rv11 =>
  ((if (!rv11) = true then
    some true
  else
    (ref03_Valid s2).bind fun rv28 =>
    some (!rv28))).bind fun c25 =>
  ((if c25 = true then
    some true
  else
    (ref16_ValidSegment g3).bind fun rv45 =>
    some (!rv45))).bind fun c42 =>
  (if c42 = true then
    some (([] : List Pick), 1)
  else
    (ref22_Run p1.Detector g3.Samples).bind fun rv54 =>
    (if (rv54.2 != 0) = true then
      some (([] : List Pick), rv54.2)
    else
      (whileM (ref23_Segment_l1 p1 s2 g3 rv54) (([] : List Pick), 0)).bind fun e354 =>
      some (e354, 0)))
-- seismonet/seismonetref03.compare
noncomputable def ref03_compare (a1 : ByteArray) (b2 : ByteArray) : Option Int :=
  (if (Op.bytesLess a1.toList b2.toList) = true then
    some (-1)
  else
    (if (!((Op.bytesLess a1.toList b2.toList) || (a1.toList == b2.toList))) = true then
      some 1
    else
      some 0))
-- seismonet/seismonetref03.Compare
noncomputable def ref03_Compare_l2 (rv6 : Int) (rv8 : Int) (rv10 : Int) (rv12 : Int) (sv51 : Int) : Option (Int ⊕ Int) :=
  (if (decide (sv51 < 4)) = true then
    (ix ([rv6, rv8, rv10, rv12] : List Int) sv51).bind fun x76 =>
    (if (x76 != 0) = true then
      some (Sum.inr x76)
    else
      some (Sum.inl (w64 (sv51 + 1))))
  else
    Option.map Sum.inr (some 0))
noncomputable def ref03_Compare (a1 : SourceID) (b2 : SourceID) : Option Int :=
  (ref03_compare a1.Network b2.Network).bind fun rv6 =>
  (ref03_compare a1.Station b2.Station).bind fun rv8 =>
  (ref03_compare a1.Location b2.Location).bind fun rv10 =>
  (ref03_compare a1.Channel b2.Channel).bind fun rv12 =>
  whileM (ref03_Compare_l2 rv6 rv8 rv10 rv12) (0)
-- seismonet/seismonetref23.Compare
noncomputable def ref23_Compare_l2 (a1 : Pick) (b2 : Pick) (sv37 : Int) : Option (Int ⊕ Int) :=
  (if (decide (sv37 < 5)) = true then
    (ix ([(⟨a1.Time, b2.Time⟩ : (Arr2 Int)), (⟨a1.Early, b2.Early⟩ : (Arr2 Int)), (⟨a1.Late, b2.Late⟩ : (Arr2 Int)), (⟨a1.Amplitude, b2.Amplitude⟩ : (Arr2 Int)), (⟨a1.Polarity, b2.Polarity⟩ : (Arr2 Int))] : List (Arr2 Int)) sv37).bind fun x70 =>
    (if (decide (x70.e0 < x70.e1)) = true then
      some (Sum.inr (-1))
    else
      (if (decide (x70.e1 < x70.e0)) = true then
        some (Sum.inr 1)
      else
        some (Sum.inl (w64 (sv37 + 1)))))
  else
    Option.map Sum.inr (some 0))
noncomputable def ref23_Compare (a1 : Pick) (b2 : Pick) : Option Int :=
  (ref03_Compare a1.Source b2.Source).bind fun rv6 =>
  (if (rv6 != 0) = true then
    some rv6
  else
    whileM (ref23_Compare_l2 a1 b2) (0))
-- seismonet/seismonetref23.Sort
noncomputable def ref23_Sort_j1 (sv5 : ((List Pick) × Int)) (out844 : (List Pick)) : Option (((List Pick) × Int) ⊕ (List Pick)) :=
  (some (w64 (sv5.2 + 1))).bind fun i846 =>
  some (Sum.inl (out844, i846))
noncomputable def ref23_Sort_l6 (l1 : (List Pick)) (sv5 : ((List Pick) × Int)) (sv849 : Int) : Option (Int ⊕ Int) :=
  (if (decide (0 < sv849)) = true then
    (ix sv5.1 (w64 (sv849 - 1))).bind fun x958 =>
    (ix l1 sv5.2).bind fun x971 =>
    (ref23_Compare x958 x971).bind fun rv983 =>
    some (decide (0 < rv983))
  else
    some false).bind fun c984 =>
  (if c984 = true then
    (some (w64 (sv849 - 1))).bind fun k1027 =>
    some (Sum.inl k1027)
  else
    some (Sum.inr sv849))
noncomputable def ref23_Sort_l3 (l1 : (List Pick)) (sv5 : ((List Pick) × Int)) : Option (((List Pick) × Int) ⊕ (List Pick)) :=
  (if (decide (sv5.2 < (l1.length : Int))) = true then
    (some (sv5.1.length : Int)).bind fun k848 =>
    (whileM (ref23_Sort_l6 l1 sv5) (k848)).bind fun e954 =>
    (if (decide (0 < e954)) = true then
      (ix sv5.1 (w64 (e954 - 1))).bind fun x1031 =>
      (ix l1 sv5.2).bind fun x1044 =>
      some (((x1031.Source.Network == x1044.Source.Network) && ((x1031.Source.Station == x1044.Source.Station) && ((x1031.Source.Location == x1044.Source.Location) && ((x1031.Source.Channel == x1044.Source.Channel) && true)))) && ((x1031.Time == x1044.Time) && ((x1031.Early == x1044.Early) && ((x1031.Late == x1044.Late) && ((x1031.Amplitude == x1044.Amplitude) && ((x1031.Polarity == x1044.Polarity) && true))))))
    else
      some false).bind fun c1055 =>
    (if c1055 = true then
      ref23_Sort_j1 sv5 sv5.1
    else
      (ix l1 sv5.2).bind fun x1090 =>
      (appM 104 sv5.1 ([x1090] : List Pick)).bind fun l1104 =>
      (subM l1104 (w64 (e954 + 1)) (l1104.length : Int)).bind fun l1112 =>
      (subM l1104 e954 (l1104.length : Int)).bind fun l1117 =>
      (some (copyM l1104 (w64 (e954 + 1)) (l1104.length : Int) l1117)).bind fun l1118 =>
      (ix l1 sv5.2).bind fun x1128 =>
      (ix l1118 e954).bind fun x1136 =>
      (setM l1118 e954 x1128).bind fun l1148 =>
      ref23_Sort_j1 sv5 l1148)
  else
    some (Sum.inr sv5.1))
noncomputable def ref23_Sort (l1 : (List Pick)) : Option (List Pick) :=
  (whileM (ref23_Sort_l3 l1) (([] : List Pick), 0)).bind fun e635 =>
  some e635
-- seismonet/seismonetref23.Run
noncomputable def ref23_Run_l4 (p1 : Picking) (s2 : SourceID) (l3 : (List Segment)) (sv381 : ((List Pick) × Int)) : Option (((List Pick) × Int) ⊕ ((List Pick) × Int)) :=
  (if (decide (sv381.2 < (l3.length : Int))) = true then
    (ix l3 sv381.2).bind fun x527 =>
    (ref23_Segment p1 s2 x527).bind fun rv543 =>
    (if (rv543.2 != 0) = true then
      some (Sum.inr (([] : List Pick), rv543.2))
    else
      (appM 104 sv381.1 rv543.1).bind fun l558 =>
      (some (w64 (sv381.2 + 1))).bind fun i563 =>
      some (Sum.inl (l558, i563)))
  else
    Option.map Sum.inr ((ref23_Sort sv381.1).bind fun rv565 =>
    (if (decide (1024 < (rv565.length : Int))) = true then
      some (([] : List Pick), 8)
    else
      some (rv565, 0))))
noncomputable def ref23_Run_l2 (p1 : Picking) (s2 : SourceID) (l3 : (List Segment)) (sv124 : Int) : Option (Int ⊕ ((List Pick) × Int)) :=
  (if (decide (sv124 < (l3.length : Int))) = true then
    (ix l3 sv124).bind fun x244 =>
    (ref16_ValidSegment x244).bind fun rv260 =>
    (if (!rv260) = true then
      some (Sum.inr (([] : List Pick), 1))
    else
      (some (w64 (sv124 + 1))).bind fun i270 =>
      some (Sum.inl i270))
  else
    Option.map Sum.inr (whileM (ref23_Run_l4 p1 s2 l3) (([] : List Pick), 0)))
noncomputable def ref23_Run (p1 : Picking) (s2 : SourceID) (l3 : (List Segment)) : Option ((List Pick) × Int) :=
  (ref23_Valid p1).bind fun rv10 =>
  ((if (!rv10) = true then
    some true
  else
    (ref03_Valid s2).bind fun rv27 =>
    some (!rv27))).bind fun c24 =>
  (if c24 = true then
    some (([] : List Pick), 1)
  else
    whileM (ref23_Run_l2 p1 s2 l3) (0))
-- seismonet/seismonetref23.Same
noncomputable def ref23_Same_l2 (a1 : (List Pick)) (b5 : (List Pick)) (sv109 : Int) : Option (Int ⊕ Bool) :=
  (if (decide (sv109 < (a1.length : Int))) = true then
    (ix a1 sv109).bind fun x241 =>
    (ix b5 sv109).bind fun x254 =>
    (if (!(((x241.Source.Network == x254.Source.Network) && ((x241.Source.Station == x254.Source.Station) && ((x241.Source.Location == x254.Source.Location) && ((x241.Source.Channel == x254.Source.Channel) && true)))) && ((x241.Time == x254.Time) && ((x241.Early == x254.Early) && ((x241.Late == x254.Late) && ((x241.Amplitude == x254.Amplitude) && ((x241.Polarity == x254.Polarity) && true))))))) = true then
      some (Sum.inr false)
    else
      (some (w64 (sv109 + 1))).bind fun i270 =>
      some (Sum.inl i270))
  else
    Option.map Sum.inr (some true))
noncomputable def ref23_Same (a1 : (List Pick)) (b5 : (List Pick)) : Option Bool :=
  (if ((a1.length : Int) != (b5.length : Int)) = true then
    some false
  else
    whileM (ref23_Same_l2 a1 b5) (0))
-- seismonet/picker.ValidPick
noncomputable def picker_ValidPick (p1 : Pick) : Option Bool :=
  (source_Valid p1.Source).bind fun rv4 =>
  ((if ((((rv4 && (decide (0 ≤ p1.Early))) && (decide (p1.Early ≤ p1.Time))) && (decide (p1.Time ≤ p1.Late))) && (decide (p1.Late ≤ 18014398509481984))) = true then
    (picker_in p1.Amplitude 0 1073741823).bind fun rv25 =>
    some rv25
  else
    some false)).bind fun c22 =>
  ((if c22 = true then
    (picker_in p1.Polarity (-1) 1).bind fun rv42 =>
    some rv42
  else
    some false)).bind fun c39 =>
  some c39
-- seismonet/seismonetref23.ValidPick
noncomputable def ref23_ValidPick (p1 : Pick) : Option Bool :=
  (ref03_Valid p1.Source).bind fun rv4 =>
  ((if ((((rv4 && (decide (0 ≤ p1.Early))) && (decide (p1.Early ≤ p1.Time))) && (decide (p1.Time ≤ p1.Late))) && (decide (p1.Late ≤ 18014398509481984))) = true then
    (ref01_In p1.Amplitude 0 1073741823).bind fun rv25 =>
    some rv25
  else
    some false)).bind fun c22 =>
  ((if c22 = true then
    (ref01_In p1.Polarity (-1) 1).bind fun rv42 =>
    some rv42
  else
    some false)).bind fun c39 =>
  some c39
-- seismonet/seismonetlaw23.PickerExact
noncomputable def law23_PickerExact_l134 (samples6 : (List Int)) (rv467 : ((List Int) × Dice)) (x18304 : Picking) (sv18680 : Int) (x19150 : Trigger) (sv19262 : Int) : Option (Int ⊕ (Int ⊕ (Int ⊕ Bool))) :=
  (if (decide (sv19262 < (([rv467.1, samples6] : List (List Int)).length : Int))) = true then
    (ix ([rv467.1, samples6] : List (List Int)) sv19262).bind fun x19396 =>
    (picker_Onset x18304 x19396 x19150).bind fun rv19408 =>
    (ref23_Onset x18304 x19396 x19150).bind fun rv19415 =>
    (if ((rv19408.1 != rv19415.1) || (rv19408.2 != rv19415.2)) = true then
      some (Sum.inr (Sum.inr (Sum.inr false)))
    else
      some (Sum.inl (w64 (sv19262 + 1))))
  else
    Option.map Sum.inr (some (Sum.inl (w64 (sv18680 + 1)))))
noncomputable def law23_PickerExact_l175 (x18304 : Picking) (x24487 : (List Segment)) (sv25204 : Int) (x26146 : SourceID) (sv26380 : Int) : Option (Int ⊕ (Int ⊕ (Int ⊕ (Int ⊕ Bool)))) :=
  (if (decide (sv26380 < (x24487.length : Int))) = true then
    (ix x24487 sv26380).bind fun x26626 =>
    (picker_Segment x18304 x26146 x26626).bind fun rv26643 =>
    (ref23_Segment x18304 x26146 x26626).bind fun rv26654 =>
    ((if (rv26643.2 != rv26654.2) = true then
      some true
    else
      (ref23_Same rv26643.1 rv26654.1).bind fun rv26675 =>
      some (!rv26675))).bind fun c26672 =>
    (if c26672 = true then
      some (Sum.inr (Sum.inr (Sum.inr (Sum.inr false))))
    else
      some (Sum.inl (w64 (sv26380 + 1))))
  else
    Option.map Sum.inr (some (Sum.inl (w64 (sv25204 + 1)))))
noncomputable def law23_PickerExact_l171 (rv306 : (SourceID × Dice)) (x18304 : Picking) (sv21597 : Int) (x24487 : (List Segment)) (sv25204 : Int) : Option (Int ⊕ (Int ⊕ (Int ⊕ Bool))) :=
  (if (decide (sv25204 < (([rv306.1, (⟨ByteArray.empty, ByteArray.empty, ByteArray.empty, ByteArray.empty⟩ : SourceID)] : List SourceID).length : Int))) = true then
    (ix ([rv306.1, (⟨ByteArray.empty, ByteArray.empty, ByteArray.empty, ByteArray.empty⟩ : SourceID)] : List SourceID) sv25204).bind fun x26146 =>
    (picker_Run x18304 x26146 x24487).bind fun rv26155 =>
    (ref23_Run x18304 x26146 x24487).bind fun rv26166 =>
    ((if (rv26155.2 != rv26166.2) = true then
      some true
    else
      (ref23_Same rv26155.1 rv26166.1).bind fun rv26187 =>
      some (!rv26187))).bind fun c26184 =>
    (if c26184 = true then
      some (Sum.inr (Sum.inr (Sum.inr false)))
    else
      whileM (law23_PickerExact_l175 x18304 x24487 sv25204 x26146) (0))
  else
    Option.map Sum.inr (some (Sum.inl (w64 (sv21597 + 1)))))
noncomputable def law23_PickerExact_l156 (segments15 : (List Segment)) (rv306 : (SourceID × Dice)) (rv481 : (Segment × Dice)) (rv495 : (Segment × Dice)) (sv8156 : Int) (x18304 : Picking) (sv21597 : Int) : Option (Int ⊕ (Int ⊕ Bool)) :=
  (if (decide (sv21597 < (([([rv481.1, rv495.1] : List Segment), segments15] : List (List Segment)).length : Int))) = true then
    (ix ([([rv481.1, rv495.1] : List Segment), segments15] : List (List Segment)) sv21597).bind fun x24487 =>
    whileM (law23_PickerExact_l171 rv306 x18304 sv21597 x24487) (0)
  else
    Option.map Sum.inr (some (Sum.inl (w64 (sv8156 + 1)))))
noncomputable def law23_PickerExact_l130 (samples6 : (List Int)) (segments15 : (List Segment)) (rv306 : (SourceID × Dice)) (rv467 : ((List Int) × Dice)) (rv481 : (Segment × Dice)) (rv495 : (Segment × Dice)) (l532 : (List Trigger)) (sv8156 : Int) (x18304 : Picking) (sv18680 : Int) : Option (Int ⊕ (Int ⊕ Bool)) :=
  (if (decide (sv18680 < (l532.length : Int))) = true then
    (ix l532 sv18680).bind fun x19150 =>
    whileM (law23_PickerExact_l134 samples6 rv467 x18304 sv18680 x19150) (0)
  else
    Option.map Sum.inr (whileM (law23_PickerExact_l156 segments15 rv306 rv481 rv495 sv8156 x18304) (0)))
noncomputable def law23_PickerExact_l186 (sv27456 : Int) (x28442 : (List Pick)) (sv28685 : Int) : Option (Int ⊕ (Int ⊕ Bool)) :=
  (if (decide (sv28685 < (x28442.length : Int))) = true then
    (ix x28442 sv28685).bind fun x28955 =>
    (picker_ValidPick x28955).bind fun rv28967 =>
    (ix x28442 sv28685).bind fun x28970 =>
    (ref23_ValidPick x28970).bind fun rv28977 =>
    (if (!(rv28967 == rv28977)) = true then
      some true
    else
      (ix x28442 sv28685).bind fun x28980 =>
      (ix x28442 0).bind fun x28988 =>
      (picker_Compare x28980 x28988).bind fun rv28995 =>
      (ix x28442 sv28685).bind fun x28998 =>
      (ix x28442 0).bind fun x29006 =>
      (ref23_Compare x28998 x29006).bind fun rv29013 =>
      some (rv28995 != rv29013)).bind fun c29014 =>
    (if c29014 = true then
      some (Sum.inr (Sum.inr false))
    else
      some (Sum.inl (w64 (sv28685 + 1))))
  else
    Option.map Sum.inr (some (Sum.inl (w64 (sv27456 + 1)))))
noncomputable def law23_PickerExact_l182 (list11 : (List Pick)) (l26712 : (List Pick)) (sv27456 : Int) : Option (Int ⊕ Bool) :=
  (if (decide (sv27456 < (([l26712, list11] : List (List Pick)).length : Int))) = true then
    (ix ([l26712, list11] : List (List Pick)) sv27456).bind fun x28442 =>
    (picker_Sort x28442).bind fun rv28454 =>
    (ref23_Sort x28442).bind fun rv28465 =>
    (ref23_Same rv28454 rv28465).bind fun rv28476 =>
    (if (!rv28476) = true then
      some (Sum.inr false)
    else
      whileM (law23_PickerExact_l186 sv27456 x28442) (0))
  else
    Option.map Sum.inr ((law23_sane).bind fun rv29092 =>
    some rv29092))
noncomputable def law23_PickerExact_l89 (samples6 : (List Int)) (list11 : (List Pick)) (segments15 : (List Segment)) (rv296 : (Picking × Dice)) (rv306 : (SourceID × Dice)) (rv467 : ((List Int) × Dice)) (rv481 : (Segment × Dice)) (rv495 : (Segment × Dice)) (l532 : (List Trigger)) (l545 : (List Picking)) (sv8156 : Int) : Option (Int ⊕ Bool) :=
  (if (decide (sv8156 < (l545.length : Int))) = true then
    (ix l545 sv8156).bind fun x18304 =>
    (picker_Valid x18304).bind fun rv18313 =>
    (ref23_Valid x18304).bind fun rv18315 =>
    (if (!(rv18313 == rv18315)) = true then
      some (Sum.inr false)
    else
      whileM (law23_PickerExact_l130 samples6 segments15 rv306 rv467 rv481 rv495 l532 sv8156 x18304) (0))
  else
    Option.map Sum.inr ((ref23_Run rv296.1 rv306.1 ([rv481.1, rv495.1] : List Segment)).bind fun rv26696 =>
    (appM 104 ([] : List Pick) rv26696.1).bind fun l26707 =>
    (appM 104 l26707 rv26696.1).bind fun l26712 =>
    whileM (law23_PickerExact_l182 list11 l26712) (0)))
noncomputable def law23_PickerExact_j1 (raw5 : Picking) (samples6 : (List Int)) (g10 : Trigger) (list11 : (List Pick)) (segments15 : (List Segment)) (rv296 : (Picking × Dice)) (rv306 : (SourceID × Dice)) (x460 : (List Int)) (x461 : Int) (x462 : Int) (x463 : Int) (x464 : Int) (x465 : Int) : Option Bool :=
  (made_Dice_Wave (⟨x460, x461⟩ : Dice) 40).bind fun rv467 =>
  (made_Dice_Segment rv467.2 40).bind fun rv481 =>
  (made_Dice_Segment rv481.2 30).bind fun rv495 =>
  (ref22_Run rv296.1.Detector rv467.1).bind fun rv513 =>
  (made_Dice_Next rv495.2 45).bind fun rv525 =>
  (appM 24 rv513.1 ([g10, (⟨(w64 (rv525.1 - 1)), 0, 0⟩ : Trigger)] : List Trigger)).bind fun l532 =>
  (some ([rv296.1, (⟨(⟨rv296.1.Detector.Short, x462, rv296.1.Detector.On, rv296.1.Detector.Off⟩ : Detector), x463, x464, x465⟩ : Picking), raw5] : List Picking)).bind fun l545 =>
  whileM (law23_PickerExact_l89 samples6 list11 segments15 rv296 rv306 rv467 rv481 rv495 l532 l545) (0)
noncomputable def law23_PickerExact_j10 (raw5 : Picking) (samples6 : (List Int)) (g10 : Trigger) (list11 : (List Pick)) (segments15 : (List Segment)) (rv296 : (Picking × Dice)) (rv306 : (SourceID × Dice)) (x29157 : (List Int)) (x29158 : Int) (x29159 : Int) (x29160 : Int) (x29161 : Int) : Option Bool :=
  law23_PickerExact_j1 raw5 samples6 g10 list11 segments15 rv296 rv306 x29157 x29158 x29159 rv296.1.Back x29160 x29161
noncomputable def law23_PickerExact_j11 (raw5 : Picking) (samples6 : (List Int)) (g10 : Trigger) (list11 : (List Pick)) (segments15 : (List Segment)) (rv296 : (Picking × Dice)) (rv306 : (SourceID × Dice)) (x29196 : (List Int)) (x29197 : Int) (x29198 : Int) (x29199 : Int) : Option Bool :=
  law23_PickerExact_j10 raw5 samples6 g10 list11 segments15 rv296 rv306 x29196 x29197 x29198 rv296.1.Level x29199
noncomputable def law23_PickerExact_j12 (raw5 : Picking) (samples6 : (List Int)) (g10 : Trigger) (list11 : (List Pick)) (segments15 : (List Segment)) (rv296 : (Picking × Dice)) (rv306 : (SourceID × Dice)) (rv319 : (Int × Dice)) (x29216 : Int) : Option Bool :=
  law23_PickerExact_j11 raw5 samples6 g10 list11 segments15 rv296 rv306 rv319.2.L rv319.2.At x29216 rv296.1.Floor
noncomputable def law23_PickerExact_l2 (t1 : (List Int)) (raw5 : Picking) (samples6 : (List Int)) (g10 : Trigger) (list11 : (List Pick)) (segments15 : (List Segment)) (sv133 : Int) : Option (Int ⊕ Bool) :=
  (if (decide (sv133 < (segments15.length : Int))) = true then
    (ix segments15 sv133).bind fun x251 =>
    (if (decide (60 < (x251.Samples.length : Int))) = true then
      (law23_sane).bind fun rv277 =>
      some (Sum.inr rv277)
    else
      some (Sum.inl (w64 (sv133 + 1))))
  else
    Option.map Sum.inr ((made_Roll t1).bind fun rv285 =>
    (made_Dice_Picking rv285).bind fun rv296 =>
    (made_Dice_Source rv296.2).bind fun rv306 =>
    (made_Dice_Next rv306.2 4).bind fun rv319 =>
    (if (rv319.1 == 0) = true then
      (made_Dice_Pick rv319.2 ([(-1), 512, 513] : List Int)).bind fun rv29106 =>
      law23_PickerExact_j1 raw5 samples6 g10 list11 segments15 rv296 rv306 rv29106.2.L rv29106.2.At rv296.1.Detector.Long rv29106.1 rv296.1.Level rv296.1.Floor
    else
      (if (rv319.1 == 1) = true then
        (made_Dice_Pick rv319.2 ([(-1), 0, 10001] : List Int)).bind fun rv29166 =>
        law23_PickerExact_j10 raw5 samples6 g10 list11 segments15 rv296 rv306 rv29166.2.L rv29166.2.At rv296.1.Detector.Long rv29166.1 rv296.1.Floor
      else
        (if (rv319.1 == 2) = true then
          (made_Dice_Pick rv319.2 ([(-1), 1073741823, 1073741824] : List Int)).bind fun rv29204 =>
          law23_PickerExact_j11 raw5 samples6 g10 list11 segments15 rv296 rv306 rv29204.2.L rv29204.2.At rv296.1.Detector.Long rv29204.1
        else
          (if (rv319.1 == 3) = true then
            law23_PickerExact_j12 raw5 samples6 g10 list11 segments15 rv296 rv306 rv319 0
          else
            law23_PickerExact_j12 raw5 samples6 g10 list11 segments15 rv296 rv306 rv319 rv296.1.Detector.Long))))))
noncomputable def law23_PickerExact (t1 : (List Int)) (raw5 : Picking) (samples6 : (List Int)) (g10 : Trigger) (list11 : (List Pick)) (segments15 : (List Segment)) : Option Bool :=
  (made_Light t1).bind fun rv22 =>
  (if ((((!rv22) || (decide (80 < (samples6.length : Int)))) || (decide (20 < (list11.length : Int)))) || (decide (4 < (segments15.length : Int)))) = true then
    (law23_sane).bind fun rv41 =>
    some rv41
  else
    whileM (law23_PickerExact_l2 t1 raw5 samples6 g10 list11 segments15) (0))
end Go.Proofs.YtmlekplbmfengaaGreat.Sh

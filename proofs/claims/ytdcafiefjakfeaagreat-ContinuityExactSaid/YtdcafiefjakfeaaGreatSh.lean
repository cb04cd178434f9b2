/- Each Go function as a plain program over lists and numbers (none: a panic, or no end). Printed by a program of ours out of the translation. -/
import Derived.Test.YtdcafiefjakfeaaGreatShData
import Derived.Test.YtdcafiefjakfeaaGreatLb1
namespace Go.Proofs.YtdcafiefjakfeaaGreat.Sh
open Go
noncomputable section
set_option linter.unusedVariables false
def a7J (l1:(List Int)):Option Bool:=
 some (decide ((l1.length:Int)≤500))
def D5 (s1:(List Record)) (f5:Record→Option Bool) (sv90:Int):Option (Int ⊕ Int):=
 (if (decide (sv90<(s1.length:Int)))=true then
 (ix s1 sv90).bind fun x200=>
 (f5 x200).bind fun rv216=>
 (if rv216=true then
 some (Sum.inr sv90)
 else
 some (Sum.inl (w64 (sv90+1))))
 else
 Option.map Sum.inr (some (-1)))
def J3 (s1:(List Record)) (f5:Record→Option Bool):Option Int:=
 l9 (D5 s1 f5) (0)
def F9 (s1:(List Record)) (f5:Record→Option Bool):Option Bool:=
 (J3 s1 f5).bind fun rv11=>
 some (decide (0≤rv11))
def a5K (c1:Int):Option Bool:=
 some (((decide (65≤c1)) && (decide (c1≤90))) || ((decide (48≤c1)) && (decide (c1≤57))))
def a4w (s1:ByteArray) (low2:Int) (high3:Int) (sv42:Int):Option (Int ⊕ Bool):=
 (if (decide (sv42<(s1.size:Int)))=true then
 (a6L s1 sv42).bind fun c95=>
 (a5K c95).bind fun rv97=>
 (if (!rv97)=true then
 some (Sum.inr false)
 else
 some (Sum.inl (w64 (sv42+1))))
 else
 Option.map Sum.inr (some ((decide (low2≤(s1.size:Int))) && (decide ((s1.size:Int)≤high3)))))
def a2J (s1:ByteArray) (low2:Int) (high3:Int):Option Bool:=
 l9 (a4w s1 low2 high3) (0)
def a5J (s1:SourceID):Option Bool:=
 (a2J s1.Network 1 2).bind fun rv4=>
 ((if rv4=true then
 (a2J s1.Station 1 5).bind fun rv21=>
 some rv21
 else
 some false)).bind fun c18=>
 ((if c18=true then
 (a2J s1.Location 0 2).bind fun rv38=>
 some rv38
 else
 some false)).bind fun c35=>
 ((if (c35 && ((s1.Location.size:Int) != 1))=true then
 (a2J s1.Channel 3 3).bind fun rv56=>
 some rv56
 else
 some false)).bind fun c53=>
 some c53
def a3U (n1:Int) (low2:Int) (high3:Int):Option Bool:=
 some ((decide (low2≤n1)) && (decide (n1≤high3)))
def a6y (n1:Int) (low2:Int) (high3:Int):Option Bool:=
 some ((decide (low2≤n1)) && (decide (n1≤high3)))
def b1g (sv3:(Int × Int)):Option ((Int × Int) ⊕ Int):=
 (if (sv3.2 != 0)=true then
 (b2l sv3.1 sv3.2).bind fun rem29=>
 some (Sum.inl (sv3.2,rem29))
 else
 some (Sum.inr sv3.1))
def a9Y (a1:Int) (b2:Int):Option Int:=
 (l9 (b1g) (a1,b2)).bind fun e21=>
 some e21
def a5Z (r1:Rate):Option Bool:=
 (a6y r1.Num 1 4096).bind fun rv4=>
 ((if rv4=true then
 (a6y r1.Den 1 4096).bind fun rv21=>
 some rv21
 else
 some false)).bind fun c18=>
 ((if c18=true then
 (a9Y r1.Num r1.Den).bind fun rv38=>
 some (rv38 == 1)
 else
 some false)).bind fun c35=>
 some c35
def a5l (r1:Rate):Option Int:=
 (some (w64 (r1.Den * 1000000))).bind fun x4=>
 some x4
def a7N (r1:Rate) (k2:Int):Option Int:=
 (a5l r1).bind fun rv5=>
 (b1q .i64 (w64 (k2 * rv5)) r1.Num).bind fun quo7=>
 some quo7
def a2V (start1:Int) (r2:Rate) (k3:Int):Option (Int × Int):=
 (a5Z r2).bind fun rv6=>
 (if (!rv6)=true then
 some (0,1)
 else
 (a6y start1 0 9007199254740992).bind fun rv15=>
 ((if (!rv15)=true then
 some true
 else
 (a6y k3 0 16777216).bind fun rv32=>
 some (!rv32))).bind fun c29=>
 (if c29=true then
 some (0,2)
 else
 (a7N r2 k3).bind fun rv41=>
 (some (w64 (start1+rv41))).bind fun x48=>
 some (x48,0)))
def a0d (s1:(List Int)) (f5:Int→Option Bool) (sv78:Int):Option (Int ⊕ Int):=
 (if (decide (sv78<(s1.length:Int)))=true then
 (ix s1 sv78).bind fun x172=>
 (f5 x172).bind fun rv184=>
 (if rv184=true then
 some (Sum.inr sv78)
 else
 some (Sum.inl (w64 (sv78+1))))
 else
 Option.map Sum.inr (some (-1)))
def U7 (s1:(List Int)) (f5:Int→Option Bool):Option Int:=
 l9 (a0d s1 f5) (0)
def Q3 (s1:(List Int)) (f5:Int→Option Bool):Option Bool:=
 (U7 s1 f5).bind fun rv11=>
 some (decide (0≤rv11))
def a2X (x1:Int):Option Bool:=
 (a3U x1 (-1073741823) 1073741823).bind fun rv3=>
 some (!rv3)
def W9 (r1:Record):Option Bool:=
 (some (r1.Samples.length:Int)).bind fun n7=>
 (a5J r1.Source).bind fun rv9=>
 ((if (!rv9)=true then
 some true
 else
 (a3U n7 1 65536).bind fun rv26=>
 some (!rv26))).bind fun c23=>
 ((if c23=true then
 some true
 else
 (a3U r1.First 0 (w64 (16777216 - n7))).bind fun rv43=>
 some (!rv43))).bind fun c40=>
 ((if c40=true then
 some true
 else
 (a3U r1.Error 0 1099511627776).bind fun rv60=>
 some (!rv60))).bind fun c57=>
 ((if c57=true then
 some true
 else
 (a3U r1.Run 0 65535).bind fun rv77=>
 some (!rv77))).bind fun c74=>
 ((if c74=true then
 some true
 else
 (a3U r1.Seq 0 1073741824).bind fun rv94=>
 some (!rv94))).bind fun c91=>
 (if c91=true then
 some false
 else
 (a2V r1.Start r1.Rate (w64 (r1.First+n7))).bind fun rv103=>
 ((if ((rv103.2 == 0) && (decide (rv103.1≤9007199254740992)))=true then
 (Q3 r1.Samples a2X).bind fun rv121=>
 some (!rv121)
 else
 some false)).bind fun c118=>
 some c118)
def P7 (r1:Record) (x5:(List Record)):Option Bool:=
 (W9 r1).bind fun rv13=>
 (if (!rv13)=true then
 some true
 else
 (ix x5 0).bind fun x16=>
 some (!((r1.Source.Network == x16.Source.Network) && ((r1.Source.Station == x16.Source.Station) && ((r1.Source.Location == x16.Source.Location) && ((r1.Source.Channel == x16.Source.Channel) && true)))))).bind fun c31=>
 some c31
def a2b (l1:(List Record)):Option Bool:=
 (F9 l1 (fun y0=>P7 y0 l1)).bind fun rv7=>
 some (!rv7)
def V6 (l1:(List Record)):Option Bool:=
 ((if (decide ((l1.length:Int)≤256))=true then
 (a2b l1).bind fun rv16=>
 some rv16
 else
 some false)).bind fun c13=>
 some c13
def Y2 (from1:Int) (to2:Int):Option Bool:=
 some (((decide (0≤from1)) && (decide (from1≤to2))) && (decide (to2≤9007199254740992)))
def V3 (l1:(List Record)) (from5:Int) (to6:Int):Option Int:=
 (V6 l1).bind fun rv8=>
 (if (!rv8)=true then
 some 1
 else
 (Y2 from5 to6).bind fun rv17=>
 (if (!rv17)=true then
 some 2
 else
 some 0))
def a4H (r1:Record) (i5:Int):Option Int:=
 (a2V r1.Start r1.Rate (w64 (r1.First+i5))).bind fun rv8=>
 some rv8.1
def a2y (r1:Record):Option Span:=
 (a4H r1 0).bind fun rv8=>
 (a4H r1 (r1.Samples.length:Int)).bind fun rv10=>
 some (⟨rv8,rv10⟩:Span)
def K5 (s1:(List Span)):Option (List Span):=
 (U8 16 ([]:List Span) s1).bind fun l11=>
 some l11
def O3 (s1:(List Span)) (f5:Span→Option Bool) (sv78:Int):Option (Int ⊕ Int):=
 (if (decide (sv78<(s1.length:Int)))=true then
 (ix s1 sv78).bind fun x172=>
 (f5 x172).bind fun rv184=>
 (if rv184=true then
 some (Sum.inr sv78)
 else
 some (Sum.inl (w64 (sv78+1))))
 else
 Option.map Sum.inr (some (-1)))
def M0 (s1:(List Span)) (f5:Span→Option Bool):Option Int:=
 l9 (O3 s1 f5) (0)
def J2 (sv22:((List Span) × Int × Int)) (sv247:(List Span)) (i248:Int):Option (((List Span) × Int × Int) ⊕ ((List Span) × Int)):=
 (some (w64 (sv22.2.2+1))).bind fun j250=>
 some (Sum.inl (sv247,i248,j250))
def N9 (del6:Span→Option Bool) (sv22:((List Span) × Int × Int)):Option (((List Span) × Int × Int) ⊕ ((List Span) × Int)):=
 (if (decide (sv22.2.2<(sv22.1.length:Int)))=true then
 (ix sv22.1 sv22.2.2).bind fun x210=>
 (del6 x210).bind fun rv223=>
 (if (!rv223)=true then
 (ix sv22.1 sv22.2.1).bind fun x254=>
 (a3X sv22.1 sv22.2.1 x210).bind fun l262=>
 (some (w64 (sv22.2.1+1))).bind fun i267=>
 J2 sv22 l262 i267
 else
 J2 sv22 sv22.1 sv22.2.1)
 else
 some (Sum.inr (sv22.1,sv22.2.1)))
def K9 (s1:(List Span)) (del6:Span→Option Bool):Option (List Span):=
 (M0 s1 del6).bind fun rv12=>
 (if (rv12 == (-1))=true then
 some s1
 else
 (some (w64 (rv12+1))).bind fun j21=>
 (l9 (N9 del6) (s1,rv12,j21)).bind fun e162=>
 (a0e e162.1 e162.2 (e162.1.length:Int)).bind fun l273=>
 (some (O0 e162.1 e162.2 (e162.1.length:Int) (List.replicate l273.length ((⟨0,0⟩:Span):Span)))).bind fun l274=>
 (a0e l274 0 e162.2).bind fun l283=>
 some l283)
def b3d (s1:Span):Option Bool:=
 some (decide (s1.From<s1.To))
def a3N (s1:Span):Option Bool:=
 (b3d s1).bind fun rv4=>
 some (!rv4)
def Q5 (x1:(List Span)) (cmp6:Span→Span→Option Int):Option (List Span):=
 a9i x1 cmp6
def cmp_isNaN_int (x1:Int):Option Bool:=
 some (x1 != x1)
def cmp_Compare_int (x1:Int) (y2:Int):Option Int:=
 (cmp_isNaN_int x1).bind fun rv4=>
 (cmp_isNaN_int y2).bind fun rv11=>
 (if rv4=true then
 (if rv11=true then
 some 0
 else
 some (-1))
 else
 (if rv11=true then
 some 1
 else
 (if (decide (x1<y2))=true then
 some (-1)
 else
 (if (decide (y2<x1))=true then
 some 1
 else
 some 0))))
def a2a (a1:Span) (b2:Span):Option Int:=
 (cmp_Compare_int a1.From b2.From).bind fun rv6=>
 some rv6
def a4y (sv39:((List Span) × Int)) (out425:(List Span)):Option (((List Span) × Int) ⊕ (List Span)):=
 some (Sum.inl (out425,(w64 (sv39.2+1))))
def a2L (rv28:(List Span)) (sv39:((List Span) × Int)):Option (((List Span) × Int) ⊕ (List Span)):=
 (if (decide (sv39.2<(rv28.length:Int)))=true then
 (ix rv28 sv39.2).bind fun x341=>
 (some (sv39.1.length:Int)).bind fun n354=>
 (if (decide (0<n354))=true then
 (ix sv39.1 (w64 (n354 - 1))).bind fun x357=>
 some (decide (x341.From≤x357.To))
 else
 some false).bind fun c368=>
 (if c368=true then
 (ix sv39.1 (w64 (n354 - 1))).bind fun x429=>
 (ix sv39.1 (w64 (n354 - 1))).bind fun x442=>
 (a3X sv39.1 (w64 (n354 - 1)) (⟨x442.From,(max x429.To x341.To)⟩:Span)).bind fun l450=>
 a4y sv39 l450
 else
 (U8 16 sv39.1 ([x341]:List Span)).bind fun l457=>
 a4y sv39 l457)
 else
 some (Sum.inr sv39.1))
def a2K (l1:(List Span)):Option (List Span):=
 (K5 l1).bind fun rv6=>
 (K9 rv6 a3N).bind fun rv17=>
 (Q5 rv17 a2a).bind fun rv28=>
 (l9 (a2L rv28) (([]:List Span),0)).bind fun e261=>
 some e261
def a1w (l1:(List Record)) (sv14:((List Span) × Int)):Option (((List Span) × Int) ⊕ (List Span)):=
 (if (decide (sv14.2<(l1.length:Int)))=true then
 (ix l1 sv14.2).bind fun x166=>
 (a2y x166).bind fun rv183=>
 (U8 16 sv14.1 ([rv183]:List Span)).bind fun l192=>
 some (Sum.inl (l192,(w64 (sv14.2+1))))
 else
 some (Sum.inr sv14.1))
def a3C (l1:(List Record)):Option ((List Span) × Int):=
 (V6 l1).bind fun rv6=>
 (if (!rv6)=true then
 some (([]:List Span),1)
 else
 (l9 (a1w l1) (([]:List Span),0)).bind fun e125=>
 (a2K e125).bind fun rv198=>
 some (rv198,0))
def a3z (sv699:((List Span) × Int × Int)) (out867:(List Span)) (atv868:Int):Option (((List Span) × Int × Int) ⊕ ((List Span) × Int)):=
 some (Sum.inl (out867,atv868,(w64 (sv699.2.2+1))))
def a3A (sv699:((List Span) × Int × Int)) (x871:Span) (out898:(List Span)):Option (((List Span) × Int × Int) ⊕ ((List Span) × Int)):=
 (some (max sv699.2.1 x871.To)).bind fun atv900=>
 a3z sv699 out898 atv900
def a2g (rv10:(List Span)) (x687:Span) (sv699:((List Span) × Int × Int)):Option (((List Span) × Int × Int) ⊕ ((List Span) × Int)):=
 (if (decide (sv699.2.2<(rv10.length:Int)))=true then
 (ix rv10 sv699.2.2).bind fun x871=>
 (if ((decide (x871.To≤sv699.2.1)) || (decide (x687.To≤x871.From)))=true then
 a3z sv699 sv699.1 sv699.2.1
 else
 (if (decide (sv699.2.1<x871.From))=true then
 (U8 16 sv699.1 ([(⟨sv699.2.1,x871.From⟩:Span)]:List Span)).bind fun l905=>
 a3A sv699 x871 l905
 else
 a3A sv699 x871 sv699.1))
 else
 some (Sum.inr (sv699.1,sv699.2.1)))
def a3B (sv31:((List Span) × Int)) (out922:(List Span)):Option (((List Span) × Int) ⊕ (List Span)):=
 some (Sum.inl (out922,(w64 (sv31.2+1))))
def a2f (rv10:(List Span)) (rv21:(List Span)) (sv31:((List Span) × Int)):Option (((List Span) × Int) ⊕ (List Span)):=
 (if (decide (sv31.2<(rv21.length:Int)))=true then
 (ix rv21 sv31.2).bind fun x687=>
 (l9 (a2g rv10 x687) (sv31.1,x687.From,0)).bind fun e825=>
 (if (decide (e825.2<x687.To))=true then
 (U8 16 e825.1 ([(⟨e825.2,x687.To⟩:Span)]:List Span)).bind fun l927=>
 a3B sv31 l927
 else
 a3B sv31 e825.1)
 else
 some (Sum.inr sv31.1))
def a7U (a1:(List Span)) (b5:(List Span)):Option (List Span):=
 (a2K b5).bind fun rv10=>
 (a2K a1).bind fun rv21=>
 (l9 (a2f rv10 rv21) (([]:List Span),0)).bind fun e520=>
 some e520
def Y9 (l1:(List Record)) (from5:Int) (to6:Int):Option ((List Span) × Int):=
 (V3 l1 from5 to6).bind fun rv8=>
 (if (rv8 != 0)=true then
 some (([]:List Span),rv8)
 else
 (a3C l1).bind fun rv17=>
 (a7U ([(⟨from5,to6⟩:Span)]:List Span) rv17.1).bind fun rv30=>
 some (rv30,0))
def L9 (s1:(List Record)):Option (List Record):=
 (U8 144 ([]:List Record) s1).bind fun l11=>
 some l11
def K7 (s1:(List Int)):Option (List Int):=
 (U8 8 ([]:List Int) s1).bind fun l11=>
 some l11
def H6 (x1:(List Record)) (cmp6:Record→Record→Option Int):Option (List Record):=
 b2u x1 cmp6
def cmp_isNaN_string (x1:ByteArray):Option Bool:=
 some (!(x1.toList == x1.toList))
def Q4 (x1:ByteArray) (y2:ByteArray):Option Int:=
 (cmp_isNaN_string x1).bind fun rv4=>
 (cmp_isNaN_string y2).bind fun rv11=>
 (if rv4=true then
 (if rv11=true then
 some 0
 else
 some (-1))
 else
 (if rv11=true then
 some 1
 else
 (if (Op.bytesLess x1.toList y2.toList)=true then
 some (-1)
 else
 (if (!((Op.bytesLess x1.toList y2.toList) || (x1.toList == y2.toList)))=true then
 some 1
 else
 some 0))))
def a4O (vals1:(List Int)) (sv55:Int):Option (Int ⊕ Int):=
 (if (decide (sv55<(vals1.length:Int)))=true then
 (ix vals1 sv55).bind fun x125=>
 (if (x125 != 0)=true then
 some (Sum.inr x125)
 else
 some (Sum.inl (w64 (sv55+1))))
 else
 Option.map Sum.inr (some 0))
def a4G (vals1:(List Int)):Option Int:=
 l9 (a4O vals1) (0)
def a4u (a1:SourceID) (b2:SourceID):Option Int:=
 (Q4 a1.Network b2.Network).bind fun rv6=>
 (Q4 a1.Station b2.Station).bind fun rv8=>
 (Q4 a1.Location b2.Location).bind fun rv10=>
 (Q4 a1.Channel b2.Channel).bind fun rv12=>
 (a4G ([rv6,rv8,rv10,rv12]:List Int)).bind fun rv16=>
 some rv16
def a1u (r1:Record) (i5:Int):Option Int:=
 (a2V r1.Start r1.Rate (w64 (r1.First+i5))).bind fun rv8=>
 some rv8.1
def a4g (r1:Record):Option Int:=
 (W9 r1).bind fun rv7=>
 (if (!rv7)=true then
 some 0
 else
 (a1u r1 0).bind fun rv16=>
 some rv16)
def I5 (s1_1:(List Int)) (s2_5:(List Int)) (sv122:Int):Option (Int ⊕ Int):=
 (if (decide (sv122<(s1_1.length:Int)))=true then
 (ix s1_1 sv122).bind fun x276=>
 (if (decide ((s2_5.length:Int)≤sv122))=true then
 some (Sum.inr 1)
 else
 (ix s2_5 sv122).bind fun x292=>
 (cmp_Compare_int x276 x292).bind fun rv304=>
 (if (rv304 != 0)=true then
 some (Sum.inr rv304)
 else
 some (Sum.inl (w64 (sv122+1)))))
 else
 Option.map Sum.inr ((if (decide ((s1_1.length:Int)<(s2_5.length:Int)))=true then
 some (-1)
 else
 some 0)))
def Y8 (s1_1:(List Int)) (s2_5:(List Int)):Option Int:=
 l9 (I5 s1_1 s2_5) (0)
def J8 (a1:Record) (b5:Record):Option Int:=
 (a4u a1.Source b5.Source).bind fun rv12=>
 (a4g a1).bind fun rv14=>
 (a4g b5).bind fun rv16=>
 (cmp_Compare_int rv14 rv16).bind fun rv18=>
 (cmp_Compare_int a1.Start b5.Start).bind fun rv20=>
 (cmp_Compare_int a1.First b5.First).bind fun rv22=>
 (cmp_Compare_int a1.Rate.Num b5.Rate.Num).bind fun rv24=>
 (cmp_Compare_int a1.Rate.Den b5.Rate.Den).bind fun rv26=>
 (cmp_Compare_int a1.Error b5.Error).bind fun rv28=>
 (cmp_Compare_int a1.Run b5.Run).bind fun rv30=>
 (cmp_Compare_int a1.Seq b5.Seq).bind fun rv32=>
 (cmp_Compare_int (a1.Samples.length:Int) (b5.Samples.length:Int)).bind fun rv34=>
 (Y8 a1.Samples b5.Samples).bind fun rv36=>
 (a4G ([rv12,rv18,rv20,rv22,rv24,rv26,rv28,rv30,rv32,rv34,rv36]:List Int)).bind fun rv40=>
 some rv40
def L8 (sv2183:((List Record) × Int × Int)) (sv2527:(List Record)) (k2528:Int):Option (((List Record) × Int × Int) ⊕ ((List Record) × Int)):=
 (some (w64 (sv2183.2.2+1))).bind fun k2_2530=>
 some (Sum.inl (sv2527,k2528,k2_2530))
def a0Z (eq6:Record→Record→Option Bool) (sv825:Int) (l2182:(List Record)) (sv2183:((List Record) × Int × Int)):Option (((List Record) × Int × Int) ⊕ ((List Record) × Int)):=
 (if (decide (sv2183.2.2<(l2182.length:Int)))=true then
 (ixV sv2183.1 sv825 l2182.length sv2183.2.2).bind fun x2468=>
 (ixV sv2183.1 sv825 l2182.length (w64 (sv2183.2.2 - 1))).bind fun x2480=>
 (eq6 x2468 x2480).bind fun rv2486=>
 (if (!rv2486)=true then
 (ixV sv2183.1 sv825 l2182.length sv2183.2.2).bind fun x2539=>
 (ix sv2183.1 sv2183.2.1).bind fun x2546=>
 (a3X sv2183.1 sv2183.2.1 x2539).bind fun l2558=>
 (some (w64 (sv2183.2.1+1))).bind fun k2563=>
 L8 sv2183 l2558 k2563
 else
 L8 sv2183 sv2183.1 sv2183.2.1)
 else
 some (Sum.inr (sv2183.1,sv2183.2.1)))
def a1l (s1:(List Record)) (eq6:Record→Record→Option Bool) (sv825:Int):Option (Int ⊕ (List Record)):=
 (if (decide (sv825<(s1.length:Int)))=true then
 (ix s1 sv825).bind fun x1909=>
 (ix s1 (w64 (sv825 - 1))).bind fun x1926=>
 (eq6 x1909 x1926).bind fun rv1938=>
 (if rv1938=true then
 (a0e s1 sv825 (s1.length:Int)).bind fun l2182=>
 (l9 (a0Z eq6 sv825 l2182) (s1,sv825,1)).bind fun e2392=>
 (a0e e2392.1 e2392.2 (e2392.1.length:Int)).bind fun l2569=>
 (some (O0 e2392.1 e2392.2 (e2392.1.length:Int) (List.replicate l2569.length ((⟨(⟨ByteArray.empty,ByteArray.empty,ByteArray.empty,ByteArray.empty⟩:SourceID),0,0,(⟨0,0⟩:Rate),0,0,0,([]:List Int)⟩:Record):Record)))).bind fun l2570=>
 (a0e l2570 0 e2392.2).bind fun l2579=>
 some (Sum.inr l2579)
 else
 (some (w64 (sv825+1))).bind fun k2583=>
 some (Sum.inl k2583))
 else
 Option.map Sum.inr (some s1))
def M5 (s1:(List Record)) (eq6:Record→Record→Option Bool):Option (List Record):=
 (if (decide ((s1.length:Int)<2))=true then
 some s1
 else
 l9 (a1l s1 eq6) (1))
def X3 (s1_1:(List Int)) (s2_5:(List Int)) (sv103:Int):Option (Int ⊕ Bool):=
 (if (decide (sv103<(s1_1.length:Int)))=true then
 (ix s1_1 sv103).bind fun x229=>
 (ix s2_5 sv103).bind fun x242=>
 (if (x229 != x242)=true then
 some (Sum.inr false)
 else
 some (Sum.inl (w64 (sv103+1))))
 else
 Option.map Sum.inr (some true))
def a0w (s1_1:(List Int)) (s2_5:(List Int)):Option Bool:=
 (if ((s1_1.length:Int) != (s2_5.length:Int))=true then
 some false
 else
 l9 (X3 s1_1 s2_5) (0))
def a1t (a1:Record) (b5:Record):Option Bool:=
 ((if ((((((((a1.Source.Network == b5.Source.Network) && ((a1.Source.Station == b5.Source.Station) && ((a1.Source.Location == b5.Source.Location) && ((a1.Source.Channel == b5.Source.Channel) && true)))) && (a1.Start == b5.Start)) && (a1.First == b5.First)) && ((a1.Rate.Num == b5.Rate.Num) && ((a1.Rate.Den == b5.Rate.Den) && true))) && (a1.Error == b5.Error)) && (a1.Run == b5.Run)) && (a1.Seq == b5.Seq))=true then
 (a0w a1.Samples b5.Samples).bind fun rv28=>
 some rv28
 else
 some false)).bind fun c25=>
 some c25
def a2P (rv6:(List Record)) (sv16:((List Record) × Int)):Option (((List Record) × Int) ⊕ (List Record)):=
 (if (decide (sv16.2<(rv6.length:Int)))=true then
 (ix sv16.1 sv16.2).bind fun x224=>
 (K7 x224.Samples).bind fun rv240=>
 (ix sv16.1 sv16.2).bind fun x252=>
 (a3X sv16.1 sv16.2 (⟨x252.Source,x252.Start,x252.First,x252.Rate,x252.Error,x252.Run,x252.Seq,rv240⟩:Record)).bind fun l264=>
 some (Sum.inl (l264,(w64 (sv16.2+1))))
 else
 some (Sum.inr sv16.1))
def a3r (l1:(List Record)):Option (List Record):=
 (L9 l1).bind fun rv6=>
 (l9 (a2P rv6) (rv6,0)).bind fun e169=>
 (H6 e169 J8).bind fun rv270=>
 (M5 rv270 a1t).bind fun rv282=>
 some rv282
def a0U (l1:(List Record)):Option ((List Record) × Int):=
 (V6 l1).bind fun rv6=>
 (if (!rv6)=true then
 some (([]:List Record),1)
 else
 (a3r l1).bind fun rv15=>
 some (rv15,0))
def a0V (r1:Record) (i5:Int):Option Int:=
 (a2V r1.Start r1.Rate (w64 (r1.First+i5))).bind fun rv8=>
 some rv8.1
def a0R (x1:(List Int)):Option (List Int):=
 sortI x1
def a0q (sv1662:((List Int) × Int × Int)) (sv1912:(List Int)) (k1913:Int):Option (((List Int) × Int × Int) ⊕ ((List Int) × Int)):=
 (some (w64 (sv1662.2.2+1))).bind fun k2_1915=>
 some (Sum.inl (sv1912,k1913,k2_1915))
def a5I (sv628:Int) (l1661:(List Int)) (sv1662:((List Int) × Int × Int)):Option (((List Int) × Int × Int) ⊕ ((List Int) × Int)):=
 (if (decide (sv1662.2.2<(l1661.length:Int)))=true then
 (ixV sv1662.1 sv628 l1661.length sv1662.2.2).bind fun x1875=>
 (ixV sv1662.1 sv628 l1661.length (w64 (sv1662.2.2 - 1))).bind fun x1883=>
 (if (x1875 != x1883)=true then
 (ixV sv1662.1 sv628 l1661.length sv1662.2.2).bind fun x1924=>
 (ix sv1662.1 sv1662.2.1).bind fun x1927=>
 (a3X sv1662.1 sv1662.2.1 x1924).bind fun l1935=>
 (some (w64 (sv1662.2.1+1))).bind fun k1940=>
 a0q sv1662 l1935 k1940
 else
 a0q sv1662 sv1662.1 sv1662.2.1)
 else
 some (Sum.inr (sv1662.1,sv1662.2.1)))
def a6g (s1:(List Int)) (sv628:Int):Option (Int ⊕ (List Int)):=
 (if (decide (sv628<(s1.length:Int)))=true then
 (ix s1 sv628).bind fun x1456=>
 (ix s1 (w64 (sv628 - 1))).bind fun x1469=>
 (if (x1456 == x1469)=true then
 (a0e s1 sv628 (s1.length:Int)).bind fun l1661=>
 (l9 (a5I sv628 l1661) (s1,sv628,1)).bind fun e1817=>
 (a0e e1817.1 e1817.2 (e1817.1.length:Int)).bind fun l1946=>
 (some (O0 e1817.1 e1817.2 (e1817.1.length:Int) (List.replicate l1946.length (0:Int)))).bind fun l1947=>
 (a0e l1947 0 e1817.2).bind fun l1956=>
 some (Sum.inr l1956)
 else
 (some (w64 (sv628+1))).bind fun k1960=>
 some (Sum.inl k1960))
 else
 Option.map Sum.inr (some s1))
def Y7 (s1:(List Int)):Option (List Int):=
 (if (decide ((s1.length:Int)<2))=true then
 some s1
 else
 l9 (a6g s1) (1))
def a0t (sv453:((List Int) × Int)) (out579:(List Int)):Option (((List Int) × Int) ⊕ (List Int)):=
 some (Sum.inl (out579,(w64 (sv453.2+1))))
def a0v (from5:Int) (to6:Int) (x437:Record) (sv453:((List Int) × Int)):Option (((List Int) × Int) ⊕ (List Int)):=
 (if (decide (sv453.2<(w64 ((x437.Samples.length:Int)+1))))=true then
 (a0V x437 sv453.2).bind fun rv560=>
 (if ((decide (from5<rv560)) && (decide (rv560<to6)))=true then
 (U8 8 sv453.1 ([rv560]:List Int)).bind fun l584=>
 a0t sv453 l584
 else
 a0t sv453 sv453.1)
 else
 some (Sum.inr sv453.1))
def a0u (l1:(List Record)) (from5:Int) (to6:Int) (sv9:((List Int) × Int)):Option (((List Int) × Int) ⊕ (List Int)):=
 (if (decide (sv9.2<(l1.length:Int)))=true then
 (ix l1 sv9.2).bind fun x437=>
 (l9 (a0v from5 to6 x437) (sv9.1,0)).bind fun e531=>
 some (Sum.inl (e531,(w64 (sv9.2+1))))
 else
 some (Sum.inr sv9.1))
def a1B (l1:(List Record)) (from5:Int) (to6:Int):Option (List Int):=
 (l9 (a0u l1 from5 to6) (([from5,to6]:List Int),0)).bind fun e327=>
 (a0R e327).bind fun rv592=>
 (Y7 rv592).bind fun rv604=>
 some rv604
def a7O (start1:Int) (r2:Rate) (t3:Int):Option Int:=
 (a5Z r2).bind fun rv6=>
 (if (!rv6)=true then
 some 1
 else
 (a6y start1 0 9007199254740992).bind fun rv15=>
 ((if (!rv15)=true then
 some true
 else
 (a6y t3 0 18014398509481984).bind fun rv32=>
 some (!rv32))).bind fun c29=>
 (if c29=true then
 some 2
 else
 some 0))
def a8L (r1:Rate) (x2:Int):Option Int:=
 (a5l r1).bind fun rv5=>
 (b1q .i64 x2 rv5).bind fun quo12=>
 (b2l x2 rv5).bind fun rem14=>
 (b1q .i64 (w64 ((w64 ((w64 (rem14 * r1.Num))+rv5)) - 1)) rv5).bind fun quo16=>
 (some (w64 ((w64 (quo12 * r1.Num))+quo16))).bind fun x18=>
 some x18
def b0H (r1:Rate) (x2:Int):Option Int:=
 (a8L r1 (w64 (x2+1))).bind fun rv5=>
 (some (w64 (rv5 - 1))).bind fun x12=>
 some x12
def a7L (start1:Int) (r2:Rate) (t3:Int):Option (Int × Int):=
 (a7O start1 r2 t3).bind fun rv6=>
 (if (rv6 != 0)=true then
 some (0,rv6)
 else
 (if (decide (t3<start1))=true then
 some ((-1),0)
 else
 (b0H r2 (w64 (t3 - start1))).bind fun rv17=>
 (some (min rv17 16777216)).bind fun x24=>
 some (x24,0)))
def a1e (r1:Record) (t5:Int):Option (Int × Int × Bool):=
 (a0V r1 0).bind fun rv8=>
 ((if (decide (t5<rv8))=true then
 some true
 else
 (a0V r1 (r1.Samples.length:Int)).bind fun rv25=>
 some (decide (rv25≤t5)))).bind fun c22=>
 (if c22=true then
 some (0,0,false)
 else
 (a7L r1.Start r1.Rate t5).bind fun rv34=>
 (a2V r1.Start r1.Rate rv34.1).bind fun rv41=>
 (ix r1.Samples (w64 (rv34.1 - r1.First))).bind fun x49=>
 some (rv41.1,x49,true))
def a0l (sv8:(Int × Bool × Int × Int × Int)) (x164:Int) (x165:Bool) (time166:Int) (value167:Int):Option ((Int × Bool × Int × Int × Int) ⊕ (Int × Bool)):=
 some (Sum.inl (x164,x165,time166,value167,(w64 (sv8.2.2.2.2+1))))
def a1C (sv8:(Int × Bool × Int × Int × Int)) (rv187:(Int × Int × Bool)) (time197:Int) (value198:Int):Option ((Int × Bool × Int × Int × Int) ⊕ (Int × Bool)):=
 a0l sv8 (w64 (sv8.1+1)) ((sv8.2.1 && (rv187.1 == time197)) && (rv187.2.1 == value198)) time197 value198
def a0m (l1:(List Record)) (t5:Int) (sv8:(Int × Bool × Int × Int × Int)):Option ((Int × Bool × Int × Int × Int) ⊕ (Int × Bool)):=
 (if (decide (sv8.2.2.2.2<(l1.length:Int)))=true then
 (ix l1 sv8.2.2.2.2).bind fun x170=>
 (a1e x170 t5).bind fun rv187=>
 (if (!rv187.2.2)=true then
 a0l sv8 sv8.1 sv8.2.1 sv8.2.2.1 sv8.2.2.2.1
 else
 (if ((w64 (sv8.1+1)) == 1)=true then
 a1C sv8 rv187 rv187.1 rv187.2.1
 else
 a1C sv8 rv187 sv8.2.2.1 sv8.2.2.2.1))
 else
 some (Sum.inr (sv8.1,sv8.2.1)))
def a3E (l1:(List Record)) (t5:Int):Option Continuity_state:=
 (l9 (a0m l1 t5) (0,true,0,0,0)).bind fun e127=>
 some (⟨e127.1,e127.2⟩:Continuity_state)
def Q9 (sv39:((List Overlap) × Int)) (out557:(List Overlap)):Option (((List Overlap) × Int) ⊕ (List Overlap)):=
 (some (w64 (sv39.2+1))).bind fun i559=>
 some (Sum.inl (out557,i559))
def R3 (sv39:((List Overlap) × Int)) (out719:(List Overlap)):Option (((List Overlap) × Int) ⊕ (List Overlap)):=
 Q9 sv39 out719
def G9 (rv17:((List Record) × Int)) (rv28:(List Int)) (sv39:((List Overlap) × Int)):Option (((List Overlap) × Int) ⊕ (List Overlap)):=
 (if (decide ((w64 (sv39.2+1))<(rv28.length:Int)))=true then
 (ix rv28 sv39.2).bind fun x562=>
 (a3E rv17.1 x562).bind fun rv574=>
 (if (decide (rv574.depth_<2))=true then
 Q9 sv39 sv39.1
 else
 (some (sv39.1.length:Int)).bind fun n584=>
 (if (decide (0<n584))=true then
 (ix sv39.1 (w64 (n584 - 1))).bind fun x587=>
 (ix rv28 sv39.2).bind fun x600=>
 some (x587.To == x600)
 else
 some false).bind fun c607=>
 (if c607=true then
 (ix sv39.1 (w64 (n584 - 1))).bind fun x610=>
 some (x610.Same == rv574.same_)
 else
 some false).bind fun c621=>
 (if c621=true then
 (ix rv28 (w64 (sv39.2+1))).bind fun x723=>
 (ix sv39.1 (w64 (n584 - 1))).bind fun x732=>
 (a3X sv39.1 (w64 (n584 - 1)) (⟨x732.From,x723,x732.Same⟩:Overlap)).bind fun l744=>
 R3 sv39 l744
 else
 (ix rv28 sv39.2).bind fun x749=>
 (ix rv28 (w64 (sv39.2+1))).bind fun x758=>
 (U8 24 sv39.1 ([(⟨x749,x758,rv574.same_⟩:Overlap)]:List Overlap)).bind fun l768=>
 R3 sv39 l768))
 else
 some (Sum.inr sv39.1))
def P6 (l1:(List Record)) (from5:Int) (to6:Int):Option ((List Overlap) × Int):=
 (V3 l1 from5 to6).bind fun rv8=>
 (if (rv8 != 0)=true then
 some (([]:List Overlap),rv8)
 else
 (a0U l1).bind fun rv17=>
 (a1B rv17.1 from5 to6).bind fun rv28=>
 (l9 (G9 rv17 rv28) (([]:List Overlap),0)).bind fun e426=>
 (if (decide (4096<(e426.length:Int)))=true then
 some (([]:List Overlap),8)
 else
 some (e426,0)))
def a5d (a1:(List Span)) (b5:(List Span)) (sv109:Int):Option (Int ⊕ Bool):=
 (if (decide (sv109<(a1.length:Int)))=true then
 (ix a1 sv109).bind fun x241=>
 (ix b5 sv109).bind fun x254=>
 (if (!((x241.From == x254.From) && ((x241.To == x254.To) && true)))=true then
 some (Sum.inr false)
 else
 (some (w64 (sv109+1))).bind fun i270=>
 some (Sum.inl i270))
 else
 Option.map Sum.inr (some true))
def a4K (a1:(List Span)) (b5:(List Span)):Option Bool:=
 (if ((a1.length:Int) != (b5.length:Int))=true then
 some false
 else
 l9 (a5d a1 b5) (0))
def a3R:Option Bool:=
 (some ([(⟨(⟨(⟨#[65]⟩:ByteArray),(⟨#[66]⟩:ByteArray),ByteArray.empty,(⟨#[72,72,90]⟩:ByteArray)⟩:SourceID),0,0,(⟨1,10⟩:Rate),0,0,0,([1]:List Int)⟩:Record),(⟨(⟨(⟨#[65]⟩:ByteArray),(⟨#[66]⟩:ByteArray),ByteArray.empty,(⟨#[72,72,90]⟩:ByteArray)⟩:SourceID),20000000,0,(⟨1,10⟩:Rate),0,0,0,([1]:List Int)⟩:Record),(⟨(⟨(⟨#[65]⟩:ByteArray),(⟨#[66]⟩:ByteArray),ByteArray.empty,(⟨#[72,72,90]⟩:ByteArray)⟩:SourceID),0,0,(⟨1,10⟩:Rate),0,0,1,([1]:List Int)⟩:Record)]:List Record)).bind fun l12=>
 (Y9 l12 0 30000000).bind fun rv18=>
 (P6 l12 0 30000000).bind fun rv30=>
 ((if ((rv18.2 == 0) && (rv30.2 == 0))=true then
 (a4K rv18.1 ([(⟨10000000,20000000⟩:Span)]:List Span)).bind fun rv56=>
 some rv56
 else
 some false)).bind fun c51=>
 ((if (c51 && ((rv30.1.length:Int) == 1))=true then
 (ix rv30.1 0).bind fun x81=>
 some ((x81.From == 0) && ((x81.To == 10000000) && ((x81.Same == true) && true)))
 else
 some false)).bind fun c77=>
 some c77
def b0B (l1:(List Int)):Option Dice:=
 some (⟨l1,0⟩:Dice)
def a2q (d1:Dice) (x30:Int):Option (Int × Dice):=
 some (x30,(⟨d1.L,(w64 (d1.At+1))⟩:Dice))
def y9 (d1:Dice) (n6:Int):Option (Int × Dice):=
 (if ((decide ((d1.L.length:Int)≤d1.At)) || (decide (n6<1)))=true then
 some (0,d1)
 else
 (ix d1.L d1.At).bind fun x12=>
 (b2l x12 n6).bind fun rem24=>
 (if (decide (rem24<0))=true then
 (some (w64 (rem24+n6))).bind fun x33=>
 a2q d1 x33
 else
 a2q d1 rem24))
def a2U (d1:Dice):Option (SourceID × Dice):=
 (y9 d1 3).bind fun rv10=>
 (ix ([(⟨#[71,82]⟩:ByteArray),(⟨#[88]⟩:ByteArray),(⟨#[55,65]⟩:ByteArray)]:List ByteArray) rv10.1).bind fun x16=>
 (y9 rv10.2 4).bind fun rv26=>
 (ix ([(⟨#[70,85,82]⟩:ByteArray),(⟨#[65]⟩:ByteArray),(⟨#[65,66,67,68,69]⟩:ByteArray),(⟨#[70,85]⟩:ByteArray)]:List ByteArray) rv26.1).bind fun x32=>
 (y9 rv26.2 3).bind fun rv42=>
 (ix ([(⟨#[]⟩:ByteArray),(⟨#[48,48]⟩:ByteArray),(⟨#[49,48]⟩:ByteArray)]:List ByteArray) rv42.1).bind fun x48=>
 (y9 rv42.2 3).bind fun rv58=>
 (ix ([(⟨#[72,72,90]⟩:ByteArray),(⟨#[72,72,78]⟩:ByteArray),(⟨#[66,72,90]⟩:ByteArray)]:List ByteArray) rv58.1).bind fun x64=>
 some ((⟨x16,x32,x48,x64⟩:SourceID),rv58.2)
def F8 (d1:Dice) (l6:(List Int)):Option (Int × Dice):=
 (y9 d1 (l6.length:Int)).bind fun rv11=>
 (ix l6 rv11.1).bind fun x22=>
 some (x22,rv11.2)
def X6 (n1:Int) (lo2:Int) (hi3:Int):Option Bool:=
 some ((decide (lo2≤n1)) && (decide (n1≤hi3)))
def b0a (sv3:(Int × Int)):Option ((Int × Int) ⊕ Int):=
 (if (sv3.2 != 0)=true then
 (b2l sv3.1 sv3.2).bind fun rem29=>
 some (Sum.inl (sv3.2,rem29))
 else
 some (Sum.inr sv3.1))
def a7i (a1:Int) (b2:Int):Option Int:=
 (l9 (b0a) (a1,b2)).bind fun e21=>
 some e21
def a8M (num1:Int) (den2:Int):Option (Rate × Int):=
 (X6 num1 1 4096).bind fun rv5=>
 ((if (!rv5)=true then
 some true
 else
 (X6 den2 1 4096).bind fun rv22=>
 some (!rv22))).bind fun c19=>
 (if c19=true then
 some ((⟨0,0⟩:Rate),2)
 else
 (a7i num1 den2).bind fun rv31=>
 (b1q .i64 num1 rv31).bind fun quo38=>
 (b1q .i64 den2 rv31).bind fun quo40=>
 some ((⟨quo38,quo40⟩:Rate),0))
def a1d (sv168:((List Int) × Int × (List Int) × Int)):Option (((List Int) × Int × (List Int) × Int) ⊕ ((List Int) × Int × (List Int))):=
 (if (decide (0<sv168.2.2.2))=true then
 (y9 (⟨sv168.1,sv168.2.1⟩:Dice) 4).bind fun rv255=>
 (U8 8 sv168.2.2.1 ([rv255.1]:List Int)).bind fun l262=>
 (some (w64 (sv168.2.2.2 - 1))).bind fun i293=>
 some (Sum.inl (rv255.2.L,rv255.2.At,l262,i293))
 else
 some (Sum.inr (sv168.1,sv168.2.1,sv168.2.2.1)))
def a2T (d1:Dice) (s6:SourceID) (n7:Int):Option (Record × Dice):=
 (F8 d1 ([1,2,2,3]:List Int)).bind fun rv13=>
 (F8 rv13.2 ([1,1,1,3]:List Int)).bind fun rv26=>
 (a8M rv13.1 rv26.1).bind fun rv37=>
 (y9 rv26.2 40).bind fun rv45=>
 (F8 rv45.2 ([0,0,3]:List Int)).bind fun rv52=>
 (F8 rv52.2 ([0,0,10,500]:List Int)).bind fun rv59=>
 (y9 rv59.2 2).bind fun rv64=>
 (y9 rv64.2 6).bind fun rv69=>
 (y9 rv69.2 n7).bind fun rv157=>
 (some (w64 (1+rv157.1))).bind fun i167=>
 (l9 (a1d) (rv157.2.L,rv157.2.At,([]:List Int),i167)).bind fun e232=>
 some ((⟨s6,(w64 (1000000000000+(w64 (250000 * rv45.1)))),rv52.1,rv37.1,rv59.1,rv64.1,rv69.1,e232.2.2⟩:Record),(⟨e232.1,e232.2.1⟩:Dice))
def X5 (sv28:((List Int) × Int × (List Record) × Int)) (x576:(List Int)) (x577:Int) (x578:ByteArray) (x579:ByteArray) (x580:ByteArray) (x581:ByteArray) (x582:Int) (x583:Int) (x584:Int) (x585:Int) (x586:Int) (x587:Int) (x588:Int) (x589:(List Int)):Option (((List Int) × Int × (List Record) × Int) ⊕ ((List Int) × Int × (List Record))):=
 (U8 144 sv28.2.2.1 ([(⟨(⟨x578,x579,x580,x581⟩:SourceID),x582,x583,(⟨x584,x585⟩:Rate),x586,x587,x588,x589⟩:Record)]:List Record)).bind fun l593=>
 (some (w64 (sv28.2.2.2 - 1))).bind fun i598=>
 some (Sum.inl (x576,x577,l593,i598))
def a0E (rv8:(SourceID × Dice)) (sv28:((List Int) × Int × (List Record) × Int)):Option (((List Int) × Int × (List Record) × Int) ⊕ ((List Int) × Int × (List Record))):=
 (if (decide (0<sv28.2.2.2))=true then
 (a2T (⟨sv28.1,sv28.2.1⟩:Dice) rv8.1 6).bind fun rv491=>
 ((if (decide (0<(sv28.2.2.1.length:Int)))=true then
 (y9 rv491.2 5).bind fun rv521=>
 some (rv521.2.L,rv521.2.At,(rv521.1 == 0))
 else
 some (rv491.2.L,rv491.2.At,false))).bind fun c516=>
 (if c516.2.2=true then
 (y9 (⟨c516.1,c516.2.1⟩:Dice) (sv28.2.2.1.length:Int)).bind fun rv601=>
 (ix sv28.2.2.1 rv601.1).bind fun x612=>
 (F8 rv601.2 ([x612.Seq,9]:List Int)).bind fun rv630=>
 X5 sv28 rv630.2.L rv630.2.At x612.Source.Network x612.Source.Station x612.Source.Location x612.Source.Channel x612.Start x612.First x612.Rate.Num x612.Rate.Den x612.Error x612.Run rv630.1 x612.Samples
 else
 X5 sv28 c516.1 c516.2.1 rv491.1.Source.Network rv491.1.Source.Station rv491.1.Source.Location rv491.1.Source.Channel rv491.1.Start rv491.1.First rv491.1.Rate.Num rv491.1.Rate.Den rv491.1.Error rv491.1.Run rv491.1.Seq rv491.1.Samples)
 else
 some (Sum.inr (sv28.1,sv28.2.1,sv28.2.2.1)))
def a2r (d1:Dice) (n6:Int):Option ((List Record) × Dice):=
 (a2U d1).bind fun rv8=>
 (y9 rv8.2 (w64 (n6+1))).bind fun rv19=>
 (l9 (a0E rv8) (rv19.2.L,rv19.2.At,([]:List Record),rv19.1)).bind fun e374=>
 some (e374.2.2,(⟨e374.1,e374.2.1⟩:Dice))
def a1D (r6:Record) (x438:(List Int)) (x439:Int) (x440:ByteArray) (x441:Int) (x442:Int) (x443:Int) (x444:Int) (x445:Int) (x446:Int) (x447:Int) (x448:(List Int)):Option (Record × Dice):=
 some ((⟨(⟨r6.Source.Network,x440,r6.Source.Location,r6.Source.Channel⟩:SourceID),x441,x442,(⟨x443,x444⟩:Rate),x445,x446,x447,x448⟩:Record),(⟨x438,x439⟩:Dice))
def a1E (r6:Record) (x633:(List Int)) (x634:Int) (x635:Int) (x636:Int) (x637:Int) (x638:Int) (x639:Int) (x640:Int) (x641:Int) (x642:(List Int)):Option (Record × Dice):=
 a1D r6 x633 x634 r6.Source.Station x635 x636 x637 x638 x639 x640 x641 x642
def a1F (r6:Record) (x811:(List Int)) (x812:Int) (x813:Int) (x814:Int) (x815:Int) (x816:Int) (x817:Int) (x818:Int) (x819:(List Int)):Option (Record × Dice):=
 a1E r6 x811 x812 r6.Start x813 x814 x815 x816 x817 x818 x819
def a1G (r6:Record) (x960:(List Int)) (x961:Int) (x962:Int) (x963:Int) (x964:Int) (x965:Int) (x966:Int) (x967:(List Int)):Option (Record × Dice):=
 a1F r6 x960 x961 r6.First x962 x963 x964 x965 x966 x967
def a1H (r6:Record) (x1082:(List Int)) (x1083:Int) (x1084:Int) (x1085:Int) (x1086:Int) (x1087:(List Int)):Option (Record × Dice):=
 a1G r6 x1082 x1083 r6.Rate.Num r6.Rate.Den x1084 x1085 x1086 x1087
def a1I (r6:Record) (x1177:(List Int)) (x1178:Int) (x1179:Int) (x1180:Int) (x1181:(List Int)):Option (Record × Dice):=
 a1H r6 x1177 x1178 r6.Error x1179 x1180 x1181
def a1J (r6:Record) (x1247:(List Int)) (x1248:Int) (x1249:Int) (x1250:(List Int)):Option (Record × Dice):=
 a1I r6 x1247 x1248 r6.Run x1249 x1250
def a1K (r6:Record) (x1293:(List Int)) (x1294:Int) (x1295:(List Int)):Option (Record × Dice):=
 a1J r6 x1293 x1294 r6.Seq x1295
def a1L (r6:Record) (rv18:(Int × Dice)) (x1353:(List Int)):Option (Record × Dice):=
 a1K r6 rv18.2.L rv18.2.At x1353
def a1c (d1:Dice) (r6:Record):Option (Record × Dice):=
 (U8 8 ([]:List Int) r6.Samples).bind fun l13=>
 (y9 d1 10).bind fun rv18=>
 (if (rv18.1 == 0)=true then
 a1D r6 rv18.2.L rv18.2.At (⟨#[]⟩:ByteArray) r6.Start r6.First r6.Rate.Num r6.Rate.Den r6.Error r6.Run r6.Seq l13
 else
 (if (rv18.1 == 1)=true then
 (F8 rv18.2 ([(-1),0,9007199254740992,9007199254740993]:List Int)).bind fun rv647=>
 a1E r6 rv647.2.L rv647.2.At rv647.1 r6.First r6.Rate.Num r6.Rate.Den r6.Error r6.Run r6.Seq l13
 else
 (if (rv18.1 == 2)=true then
 (F8 rv18.2 ([(-1),16777213,16777216]:List Int)).bind fun rv824=>
 a1F r6 rv824.2.L rv824.2.At rv824.1 r6.Rate.Num r6.Rate.Den r6.Error r6.Run r6.Seq l13
 else
 (if (rv18.1 == 3)=true then
 (F8 rv18.2 ([0,2,4097]:List Int)).bind fun rv972=>
 a1G r6 rv972.2.L rv972.2.At rv972.1 2 r6.Error r6.Run r6.Seq l13
 else
 (if (rv18.1 == 4)=true then
 (F8 rv18.2 ([(-1),1099511627776,1099511627777]:List Int)).bind fun rv1092=>
 a1H r6 rv1092.2.L rv1092.2.At rv1092.1 r6.Run r6.Seq l13
 else
 (if (rv18.1 == 5)=true then
 (F8 rv18.2 ([(-1),65535,65536]:List Int)).bind fun rv1186=>
 a1I r6 rv1186.2.L rv1186.2.At rv1186.1 r6.Seq l13
 else
 (if (rv18.1 == 6)=true then
 (F8 rv18.2 ([(-1),1073741824,1073741825]:List Int)).bind fun rv1255=>
 a1J r6 rv1255.2.L rv1255.2.At rv1255.1 l13
 else
 (if (rv18.1 == 7)=true then
 (F8 rv18.2 ([1073741823,1073741824,(-1073741824)]:List Int)).bind fun rv1300=>
 (U8 8 l13 ([rv1300.1]:List Int)).bind fun l1307=>
 a1K r6 rv1300.2.L rv1300.2.At l1307
 else
 (if (rv18.1 == 8)=true then
 a1L r6 rv18 ([]:List Int)
 else
 a1L r6 rv18 l13)))))))))
def a4W (s1:ByteArray) (lo2:Int) (hi3:Int) (sv111:Int):Option (Int ⊕ Bool):=
 (if (decide (sv111<(s1.size:Int)))=true then
 (a6L s1 sv111).bind fun c254=>
 ((if (decide (65≤c254))=true then
 (a6L s1 sv111).bind fun c261=>
 some (decide (c261≤90))
 else
 some false)).bind fun c258=>
 ((if c258=true then
 some true
 else
 (a6L s1 sv111).bind fun c275=>
 ((if (decide (48≤c275))=true then
 (a6L s1 sv111).bind fun c282=>
 some (decide (c282≤57))
 else
 some false)).bind fun c279=>
 some c279)).bind fun c272=>
 (if (!c272)=true then
 some (Sum.inr false)
 else
 (some (w64 (sv111+1))).bind fun i287=>
 some (Sum.inl i287))
 else
 Option.map Sum.inr (some ((decide (lo2≤(s1.size:Int))) && (decide ((s1.size:Int)≤hi3)))))
def a3S (s1:ByteArray) (lo2:Int) (hi3:Int):Option Bool:=
 l9 (a4W s1 lo2 hi3) (0)
def a6C (s1:SourceID):Option Bool:=
 (a3S s1.Network 1 2).bind fun rv4=>
 ((if rv4=true then
 (a3S s1.Station 1 5).bind fun rv21=>
 some rv21
 else
 some false)).bind fun c18=>
 ((if c18=true then
 ((if (s1.Location.toList == (⟨#[]⟩:ByteArray).toList)=true then
 some true
 else
 (a3S s1.Location 2 2).bind fun rv58=>
 some rv58)).bind fun c55=>
 some c55
 else
 some false)).bind fun c45=>
 ((if c45=true then
 (a3S s1.Channel 3 3).bind fun rv75=>
 some rv75
 else
 some false)).bind fun c72=>
 some c72
def a5o (r1:Rate):Option Bool:=
 (X6 r1.Num 1 4096).bind fun rv4=>
 ((if rv4=true then
 (X6 r1.Den 1 4096).bind fun rv21=>
 some rv21
 else
 some false)).bind fun c18=>
 ((if c18=true then
 (a7i r1.Num r1.Den).bind fun rv38=>
 some (rv38 == 1)
 else
 some false)).bind fun c35=>
 some c35
def a5E (n1:Int):Option Bool:=
 (X6 n1 (-1073741823) 1073741823).bind fun rv3=>
 some rv3
def a3b (l1:(List Int)) (sv82:Int):Option (Int ⊕ Bool):=
 (if (decide (sv82<(l1.length:Int)))=true then
 (ix l1 sv82).bind fun x186=>
 (a5E x186).bind fun rv198=>
 (if (!rv198)=true then
 some (Sum.inr false)
 else
 (some (w64 (sv82+1))).bind fun i208=>
 some (Sum.inl i208))
 else
 Option.map Sum.inr (some true))
def a4Y (l1:(List Int)):Option Bool:=
 l9 (a3b l1) (0)
def a4J (start1:Int) (r2:Rate) (k3:Int):Option (Int × Int):=
 (a5o r2).bind fun rv6=>
 (if (!rv6)=true then
 some (0,1)
 else
 (X6 start1 0 9007199254740992).bind fun rv15=>
 ((if (!rv15)=true then
 some true
 else
 (X6 k3 0 16777216).bind fun rv32=>
 some (!rv32))).bind fun c29=>
 (if c29=true then
 some (0,2)
 else
 (b1q .i64 (w64 ((w64 (k3 * r2.Den)) * 1000000)) r2.Num).bind fun quo41=>
 (some (w64 (start1+quo41))).bind fun x43=>
 some (x43,0)))
def J4 (r1:Record) (i5:Int):Option Int:=
 (a4J r1.Start r1.Rate (w64 (r1.First+i5))).bind fun rv8=>
 some rv8.1
def X7 (r1:Record):Option Bool:=
 (a6C r1.Source).bind fun rv7=>
 ((if (!rv7)=true then
 some true
 else
 (a5o r1.Rate).bind fun rv24=>
 some (!rv24))).bind fun c21=>
 ((if c21=true then
 some true
 else
 (X6 r1.Start 0 9007199254740992).bind fun rv41=>
 some (!rv41))).bind fun c38=>
 ((if c38=true then
 some true
 else
 (X6 r1.First 0 16777216).bind fun rv58=>
 some (!rv58))).bind fun c55=>
 ((if c55=true then
 some true
 else
 (X6 (r1.Samples.length:Int) 1 65536).bind fun rv75=>
 some (!rv75))).bind fun c72=>
 ((if (c72 || (decide (16777216<(w64 (r1.First+(r1.Samples.length:Int))))))=true then
 some true
 else
 (a4Y r1.Samples).bind fun rv93=>
 some (!rv93))).bind fun c90=>
 (if c90=true then
 some false
 else
 (X6 r1.Error 0 1099511627776).bind fun rv102=>
 ((if rv102=true then
 (X6 r1.Run 0 65535).bind fun rv119=>
 some rv119
 else
 some false)).bind fun c116=>
 ((if c116=true then
 (X6 r1.Seq 0 1073741824).bind fun rv136=>
 some rv136
 else
 some false)).bind fun c133=>
 ((if c133=true then
 (J4 r1 (r1.Samples.length:Int)).bind fun rv153=>
 some (decide (rv153≤9007199254740992))
 else
 some false)).bind fun c150=>
 some c150)
def a2e (l1:(List Record)) (sv157:Int):Option (Int ⊕ Bool):=
 (if (decide (sv157<(l1.length:Int)))=true then
 (ix l1 sv157).bind fun x361=>
 (X7 x361).bind fun rv377=>
 (if (!rv377)=true then
 some true
 else
 (ix l1 sv157).bind fun x380=>
 (ix l1 0).bind fun x392=>
 some (!((x380.Source.Network == x392.Source.Network) && ((x380.Source.Station == x392.Source.Station) && ((x380.Source.Location == x392.Source.Location) && ((x380.Source.Channel == x392.Source.Channel) && true)))))).bind fun c402=>
 (if c402=true then
 some (Sum.inr false)
 else
 (some (w64 (sv157+1))).bind fun i445=>
 some (Sum.inl i445))
 else
 Option.map Sum.inr (some true))
def a4M (l1:(List Record)):Option Bool:=
 l9 (a2e l1) (0)
def a0K (l1:(List Record)):Option Bool:=
 ((if (decide ((l1.length:Int)≤256))=true then
 (a4M l1).bind fun rv16=>
 some rv16
 else
 some false)).bind fun c13=>
 some c13
def a4r (l1:(List Record)) (from5:Int) (to6:Int):Option Int:=
 (a0K l1).bind fun rv8=>
 (if (!rv8)=true then
 some 1
 else
 (if (((decide (from5<0)) || (decide (to6<from5))) || (decide (9007199254740992<to6)))=true then
 some 2
 else
 some 0))
def a2D (r1:Record):Option (Span × Int):=
 (X7 r1).bind fun rv8=>
 (if (!rv8)=true then
 some ((⟨0,0⟩:Span),1)
 else
 (J4 r1 0).bind fun rv17=>
 (J4 r1 (r1.Samples.length:Int)).bind fun rv19=>
 some ((⟨rv17,rv19⟩:Span),0))
def a3H (sv5:((List Span) × Int)) (sorted716:(List Span)):Option (((List Span) × Int) ⊕ (List Span)):=
 (some (w64 (sv5.2+1))).bind fun i718=>
 some (Sum.inl (sorted716,i718))
def a3K (l1:(List Span)) (sv5:((List Span) × Int)) (sv745:Int):Option (Int ⊕ Int):=
 (if (decide (0<sv745))=true then
 (ix sv5.1 (w64 (sv745 - 1))).bind fun x833=>
 (ix l1 sv5.2).bind fun x846=>
 some (decide (x846.From<x833.From))
 else
 some false).bind fun c852=>
 (if c852=true then
 (some (w64 (sv745 - 1))).bind fun k883=>
 some (Sum.inl k883)
 else
 some (Sum.inr sv745))
def a3J (l1:(List Span)) (sv5:((List Span) × Int)):Option (((List Span) × Int) ⊕ (List Span)):=
 (if (decide (sv5.2<(l1.length:Int)))=true then
 (ix l1 sv5.2).bind fun x721=>
 (ix l1 sv5.2).bind fun x734=>
 (if (decide (x734.To≤x721.From))=true then
 a3H sv5 sv5.1
 else
 (some (sv5.1.length:Int)).bind fun k744=>
 (l9 (a3K l1 sv5) (k744)).bind fun e829=>
 (ix l1 sv5.2).bind fun x887=>
 (U8 16 sv5.1 ([x887]:List Span)).bind fun l896=>
 (a0e l896 (w64 (e829+1)) (l896.length:Int)).bind fun l904=>
 (a0e l896 e829 (l896.length:Int)).bind fun l909=>
 (some (O0 l896 (w64 (e829+1)) (l896.length:Int) l909)).bind fun l910=>
 (ix l1 sv5.2).bind fun x920=>
 (ix l910 e829).bind fun x928=>
 (a3X l910 e829 x920).bind fun l940=>
 a3H sv5 l940)
 else
 some (Sum.inr sv5.1))
def a3I (sv945:((List Span) × Int)) (out1475:(List Span)):Option (((List Span) × Int) ⊕ (List Span)):=
 (some (w64 (sv945.2+1))).bind fun i1477=>
 some (Sum.inl (out1475,i1477))
def a1X (e539:(List Span)) (sv945:((List Span) × Int)):Option (((List Span) × Int) ⊕ (List Span)):=
 (if (decide (sv945.2<(e539.length:Int)))=true then
 (some (sv945.1.length:Int)).bind fun n1352=>
 (if (decide (0<n1352))=true then
 (ix e539 sv945.2).bind fun x1355=>
 (ix sv945.1 (w64 (n1352 - 1))).bind fun x1368=>
 some (decide (x1355.From≤x1368.To))
 else
 some false).bind fun c1379=>
 (if c1379=true then
 (ix sv945.1 (w64 (n1352 - 1))).bind fun x1481=>
 (ix e539 sv945.2).bind fun x1494=>
 (ix sv945.1 (w64 (n1352 - 1))).bind fun x1507=>
 (a3X sv945.1 (w64 (n1352 - 1)) (⟨x1507.From,(max x1481.To x1494.To)⟩:Span)).bind fun l1515=>
 a3I sv945 l1515
 else
 (ix e539 sv945.2).bind fun x1521=>
 (U8 16 sv945.1 ([x1521]:List Span)).bind fun l1535=>
 a3I sv945 l1535)
 else
 some (Sum.inr sv945.1))
def X0 (l1:(List Span)):Option (List Span):=
 (l9 (a3J l1) (([]:List Span),0)).bind fun e539=>
 (l9 (a1X e539) (([]:List Span),0)).bind fun e1248=>
 some e1248
def a3h (l1:(List Record)) (sv14:((List Span) × Int)):Option (((List Span) × Int) ⊕ (List Span)):=
 (if (decide (sv14.2<(l1.length:Int)))=true then
 (ix l1 sv14.2).bind fun x172=>
 (a2D x172).bind fun rv188=>
 (U8 16 sv14.1 ([rv188.1]:List Span)).bind fun l198=>
 (some (w64 (sv14.2+1))).bind fun i203=>
 some (Sum.inl (l198,i203))
 else
 some (Sum.inr sv14.1))
def a5g (l1:(List Record)):Option ((List Span) × Int):=
 (a0K l1).bind fun rv6=>
 (if (!rv6)=true then
 some (([]:List Span),1)
 else
 (l9 (a3h l1) (([]:List Span),0)).bind fun e131=>
 (X0 e131).bind fun rv206=>
 some (rv206,0))
def a4i (sv1336:((List Span) × Int × Int)) (out1690:(List Span)) (fromv1691:Int):Option (((List Span) × Int × Int) ⊕ ((List Span) × Int)):=
 (some (w64 (sv1336.2.2+1))).bind fun k1693=>
 some (Sum.inl (out1690,fromv1691,k1693))
def a4j (rv21:(List Span)) (sv1336:((List Span) × Int × Int)) (out1780:(List Span)):Option (((List Span) × Int × Int) ⊕ ((List Span) × Int)):=
 (ix rv21 sv1336.2.2).bind fun x1783=>
 (some (max sv1336.2.1 x1783.To)).bind fun fromv1791=>
 a4i sv1336 out1780 fromv1791
def a6d (rv10:(List Span)) (rv21:(List Span)) (sv31:((List Span) × Int)) (sv1336:((List Span) × Int × Int)):Option (((List Span) × Int × Int) ⊕ ((List Span) × Int)):=
 (if (decide (sv1336.2.2<(rv21.length:Int)))=true then
 (ix rv21 sv1336.2.2).bind fun x1696=>
 (if (decide (x1696.To≤sv1336.2.1))=true then
 some true
 else
 (ix rv21 sv1336.2.2).bind fun x1709=>
 (ix rv10 sv31.2).bind fun x1718=>
 some (decide (x1718.To≤x1709.From))).bind fun c1725=>
 (if c1725=true then
 a4i sv1336 sv1336.1 sv1336.2.1
 else
 (ix rv21 sv1336.2.2).bind fun x1752=>
 (if (decide (sv1336.2.1<x1752.From))=true then
 (ix rv21 sv1336.2.2).bind fun x1795=>
 (U8 16 sv1336.1 ([(⟨sv1336.2.1,x1795.From⟩:Span)]:List Span)).bind fun l1805=>
 a4j rv21 sv1336 l1805
 else
 a4j rv21 sv1336 sv1336.1))
 else
 some (Sum.inr (sv1336.1,sv1336.2.1)))
def a4k (sv31:((List Span) × Int)) (out1840:(List Span)):Option (((List Span) × Int) ⊕ (List Span)):=
 (some (w64 (sv31.2+1))).bind fun i1842=>
 some (Sum.inl (out1840,i1842))
def a6c (rv10:(List Span)) (rv21:(List Span)) (sv31:((List Span) × Int)):Option (((List Span) × Int) ⊕ (List Span)):=
 (if (decide (sv31.2<(rv10.length:Int)))=true then
 (ix rv10 sv31.2).bind fun x1325=>
 (l9 (a6d rv10 rv21 sv31) (sv31.1,x1325.From,0)).bind fun e1603=>
 (ix rv10 sv31.2).bind fun x1812=>
 (if (decide (e1603.2<x1812.To))=true then
 (ix rv10 sv31.2).bind fun x1846=>
 (U8 16 e1603.1 ([(⟨e1603.2,x1846.To⟩:Span)]:List Span)).bind fun l1856=>
 a4k sv31 l1856
 else
 a4k sv31 e1603.1)
 else
 some (Sum.inr sv31.1))
def a6D (a1:(List Span)) (b5:(List Span)):Option (List Span):=
 (X0 a1).bind fun rv10=>
 (X0 b5).bind fun rv21=>
 (l9 (a6c rv10 rv21) (([]:List Span),0)).bind fun e1000=>
 some e1000
def a7S (l1:(List Record)) (from5:Int) (to6:Int):Option ((List Span) × Int):=
 (a4r l1 from5 to6).bind fun rv8=>
 (if (rv8 != 0)=true then
 some (([]:List Span),rv8)
 else
 (a5g l1).bind fun rv17=>
 (a6D ([(⟨from5,to6⟩:Span)]:List Span) rv17.1).bind fun rv30=>
 some (rv30,0))
def a0W (a1:ByteArray) (b2:ByteArray):Option Int:=
 (if (Op.bytesLess a1.toList b2.toList)=true then
 some (-1)
 else
 (if (!((Op.bytesLess a1.toList b2.toList) || (a1.toList == b2.toList)))=true then
 some 1
 else
 some 0))
def a2Z (rv6:Int) (rv8:Int) (rv10:Int) (rv12:Int) (sv51:Int):Option (Int ⊕ Int):=
 (if (decide (sv51<4))=true then
 (ix ([rv6,rv8,rv10,rv12]:List Int) sv51).bind fun x76=>
 (if (x76 != 0)=true then
 some (Sum.inr x76)
 else
 some (Sum.inl (w64 (sv51+1))))
 else
 Option.map Sum.inr (some 0))
def a4U (a1:SourceID) (b2:SourceID):Option Int:=
 (a0W a1.Network b2.Network).bind fun rv6=>
 (a0W a1.Station b2.Station).bind fun rv8=>
 (a0W a1.Location b2.Location).bind fun rv10=>
 (a0W a1.Channel b2.Channel).bind fun rv12=>
 l9 (a2Z rv6 rv8 rv10 rv12) (0)
def K8 (a1:Int) (b2:Int):Option Int:=
 (if (decide (a1<b2))=true then
 some (-1)
 else
 (if (decide (b2<a1))=true then
 some 1
 else
 some 0))
def a1i (a1:Record) (b5:Record) (sv266:Int):Option (Int ⊕ Int):=
 (if (decide (sv266<(a1.Samples.length:Int)))=true then
 (ix a1.Samples sv266).bind fun x406=>
 (ix b5.Samples sv266).bind fun x419=>
 (K8 x406 x419).bind fun rv431=>
 (if (rv431 != 0)=true then
 some (Sum.inr rv431)
 else
 (some (w64 (sv266+1))).bind fun i442=>
 some (Sum.inl i442))
 else
 Option.map Sum.inr (some 0))
def a3c (a1:Record) (b5:Record) (rv46:Int) (rv48:Int) (rv50:Int) (rv52:Int) (rv54:Int) (rv56:Int) (rv58:Int) (rv60:Int) (rv62:Int) (rv64:Int) (sv133:Int):Option (Int ⊕ Int):=
 (if (decide (sv133<10))=true then
 (ix ([rv46,rv48,rv50,rv52,rv54,rv56,rv58,rv60,rv62,rv64]:List Int) sv133).bind fun x158=>
 (if (x158 != 0)=true then
 some (Sum.inr x158)
 else
 some (Sum.inl (w64 (sv133+1))))
 else
 Option.map Sum.inr (l9 (a1i a1 b5) (0)))
def a1h (a1:Record) (b5:Record) (x27:Int) (y44:Int):Option Int:=
 (a4U a1.Source b5.Source).bind fun rv46=>
 (K8 x27 y44).bind fun rv48=>
 (K8 a1.Start b5.Start).bind fun rv50=>
 (K8 a1.First b5.First).bind fun rv52=>
 (K8 a1.Rate.Num b5.Rate.Num).bind fun rv54=>
 (K8 a1.Rate.Den b5.Rate.Den).bind fun rv56=>
 (K8 a1.Error b5.Error).bind fun rv58=>
 (K8 a1.Run b5.Run).bind fun rv60=>
 (K8 a1.Seq b5.Seq).bind fun rv62=>
 (K8 (a1.Samples.length:Int) (b5.Samples.length:Int)).bind fun rv64=>
 l9 (a3c a1 b5 rv46 rv48 rv50 rv52 rv54 rv56 rv58 rv60 rv62 rv64) (0)
def a1g (a1:Record) (b5:Record) (x27:Int):Option Int:=
 (X7 b5).bind fun rv29=>
 (if rv29=true then
 (J4 b5 0).bind fun rv449=>
 a1h a1 b5 x27 rv449
 else
 a1h a1 b5 x27 0)
def a0X (a1:Record) (b5:Record):Option Int:=
 (X7 a1).bind fun rv12=>
 (if rv12=true then
 (J4 a1 0).bind fun rv457=>
 a1g a1 b5 rv457
 else
 a1g a1 b5 0)
def X9 (sv5:((List Record) × Int)) (out1028:(List Record)):Option (((List Record) × Int) ⊕ (List Record)):=
 (some (w64 (sv5.2+1))).bind fun i1030=>
 some (Sum.inl (out1028,i1030))
def a4n (l1:(List Record)) (sv5:((List Record) × Int)) (sv1033:Int):Option (Int ⊕ Int):=
 (if (decide (0<sv1033))=true then
 (ix sv5.1 (w64 (sv1033 - 1))).bind fun x1166=>
 (ix l1 sv5.2).bind fun x1183=>
 (a0X x1166 x1183).bind fun rv1199=>
 some (decide (0<rv1199))
 else
 some false).bind fun c1200=>
 (if c1200=true then
 (some (w64 (sv1033 - 1))).bind fun k1251=>
 some (Sum.inl k1251)
 else
 some (Sum.inr sv1033))
def a4m (l1:(List Record)) (sv5:((List Record) × Int)):Option (((List Record) × Int) ⊕ (List Record)):=
 (if (decide (sv5.2<(l1.length:Int)))=true then
 (some (sv5.1.length:Int)).bind fun k1032=>
 (l9 (a4n l1 sv5) (k1032)).bind fun e1162=>
 (if (decide (0<e1162))=true then
 (ix sv5.1 (w64 (e1162 - 1))).bind fun x1255=>
 (ix l1 sv5.2).bind fun x1272=>
 (a0X x1255 x1272).bind fun rv1288=>
 some (rv1288 == 0)
 else
 some false).bind fun c1289=>
 (if c1289=true then
 X9 sv5 sv5.1
 else
 (ix l1 sv5.2).bind fun x1339=>
 (U8 144 sv5.1 ([x1339]:List Record)).bind fun l1357=>
 (a0e l1357 (w64 (e1162+1)) (l1357.length:Int)).bind fun l1365=>
 (a0e l1357 e1162 (l1357.length:Int)).bind fun l1370=>
 (some (O0 l1357 (w64 (e1162+1)) (l1357.length:Int) l1370)).bind fun l1371=>
 (ix l1 sv5.2).bind fun x1381=>
 (ix l1371 e1162).bind fun x1393=>
 (a3X l1371 e1162 x1381).bind fun l1409=>
 X9 sv5 l1409)
 else
 some (Sum.inr sv5.1))
def a2F (l1:(List Record)):Option (List Record):=
 (l9 (a4m l1) (([]:List Record),0)).bind fun e773=>
 some e773
def a2E (l1:(List Record)):Option ((List Record) × Int):=
 (a0K l1).bind fun rv6=>
 (if (!rv6)=true then
 some (([]:List Record),1)
 else
 (a2F l1).bind fun rv15=>
 some (rv15,0))
def a4p (l1:(List Int)) (x6:Int) (sv7:Int):Option (Int ⊕ Int):=
 ((if (decide (sv7<(l1.length:Int)))=true then
 (ix l1 sv7).bind fun x129=>
 some (decide (x129<x6))
 else
 some false)).bind fun c125=>
 (if c125=true then
 (some (w64 (sv7+1))).bind fun k145=>
 some (Sum.inl k145)
 else
 some (Sum.inr sv7))
def a8N (l1:(List Int)) (x6:Int):Option (List Int):=
 (l9 (a4p l1 x6) (0)).bind fun e109=>
 ((if (decide (e109<(l1.length:Int)))=true then
 (ix l1 e109).bind fun x165=>
 some (x165 == x6)
 else
 some false)).bind fun c161=>
 (if c161=true then
 some l1
 else
 (U8 8 l1 ([0]:List Int)).bind fun l181=>
 (a0e l181 (w64 (e109+1)) (l181.length:Int)).bind fun l189=>
 (a0e l181 e109 (l181.length:Int)).bind fun l194=>
 (some (O0 l181 (w64 (e109+1)) (l181.length:Int) l194)).bind fun l195=>
 (ix l195 e109).bind fun x205=>
 (a3X l195 e109 x6).bind fun l217=>
 some l217)
def a6G (sv6:((List (Arr2 Int)) × Int)) (out1585:(List (Arr2 Int))):Option (((List (Arr2 Int)) × Int) ⊕ (List (Arr2 Int))):=
 (some (w64 (sv6.2+1))).bind fun i1587=>
 some (Sum.inl (out1585,i1587))
def a6H (sv1616:((List (Arr2 Int)) × Int)) (out2181:(List (Arr2 Int))):Option (((List (Arr2 Int)) × Int) ⊕ (List (Arr2 Int))):=
 (some (w64 (sv1616.2+1))).bind fun j2183=>
 some (Sum.inl (out2181,j2183))
def a6J (l1:(List Record)) (t5:Int) (sv6:((List (Arr2 Int)) × Int)) (sv1616:((List (Arr2 Int)) × Int)):Option (((List (Arr2 Int)) × Int) ⊕ (List (Arr2 Int))):=
 (ix l1 sv6.2).bind fun x1974=>
 (if (decide (sv1616.2<(x1974.Samples.length:Int)))=true then
 (ix l1 sv6.2).bind fun x2086=>
 (J4 x2086 sv1616.2).bind fun rv2097=>
 ((if (decide (rv2097≤t5))=true then
 (ix l1 sv6.2).bind fun x2127=>
 (J4 x2127 (w64 (sv1616.2+1))).bind fun rv2138=>
 some (decide (t5<rv2138))
 else
 some false)).bind fun c2123=>
 (if c2123=true then
 (ix l1 sv6.2).bind fun x2187=>
 (ix x2187.Samples sv1616.2).bind fun x2199=>
 (U8 16 sv1616.1 ([(⟨rv2097,x2199⟩:(Arr2 Int))]:List (Arr2 Int))).bind fun l2213=>
 a6H sv1616 l2213
 else
 a6H sv1616 sv1616.1)
 else
 some (Sum.inr sv1616.1))
def a6I (l1:(List Record)) (t5:Int) (sv6:((List (Arr2 Int)) × Int)):Option (((List (Arr2 Int)) × Int) ⊕ (List (Arr2 Int))):=
 (if (decide (sv6.2<(l1.length:Int)))=true then
 (ix l1 sv6.2).bind fun x1590=>
 (a2D x1590).bind fun rv1606=>
 (if ((decide (t5<rv1606.1.From)) || (decide (rv1606.1.To≤t5)))=true then
 a6G sv6 sv6.1
 else
 (l9 (a6J l1 t5 sv6) (sv6.1,0)).bind fun e1967=>
 a6G sv6 e1967)
 else
 some (Sum.inr sv6.1))
def a8A (l1:(List Record)) (t5:Int):Option (List (Arr2 Int)):=
 (l9 (a6I l1 t5) (([]:List (Arr2 Int)),0)).bind fun e1191=>
 some e1191
def a0L (sv821:((List Int) × Int)) (cuts1106:(List Int)):Option (((List Int) × Int) ⊕ (List Int)):=
 (some (w64 (sv821.2+1))).bind fun j1108=>
 some (Sum.inl (cuts1106,j1108))
def R7 (from5:Int) (to6:Int) (rv17:((List Record) × Int)) (sv29:((List Int) × Int)) (sv821:((List Int) × Int)):Option (((List Int) × Int) ⊕ (List Int)):=
 (ix rv17.1 sv29.2).bind fun x1014=>
 (if (decide (sv821.2≤(x1014.Samples.length:Int)))=true then
 (ix rv17.1 sv29.2).bind fun x1071=>
 (J4 x1071 sv821.2).bind fun rv1083=>
 (if ((decide (from5<rv1083)) && (decide (rv1083<to6)))=true then
 (a8N sv821.1 rv1083).bind fun rv1111=>
 a0L sv821 rv1111
 else
 a0L sv821 sv821.1)
 else
 some (Sum.inr sv821.1))
def R6 (from5:Int) (to6:Int) (rv17:((List Record) × Int)) (sv29:((List Int) × Int)):Option (((List Int) × Int) ⊕ (List Int)):=
 (if (decide (sv29.2<(rv17.1.length:Int)))=true then
 (l9 (R7 from5 to6 rv17 sv29) (sv29.1,0)).bind fun e1007=>
 (some (w64 (sv29.2+1))).bind fun i1123=>
 some (Sum.inl (e1007,i1123))
 else
 some (Sum.inr sv29.1))
def a0M (sv1126:((List Overlap) × Int)) (out2022:(List Overlap)):Option (((List Overlap) × Int) ⊕ (List Overlap)):=
 (some (w64 (sv1126.2+1))).bind fun i2024=>
 some (Sum.inl (out2022,i2024))
def a1O (rv2039:(List (Arr2 Int))) (sv2112:(Bool × Int)):Option ((Bool × Int) ⊕ Bool):=
 (if (decide (sv2112.2<(rv2039.length:Int)))=true then
 (if sv2112.1=true then
 (ix rv2039 sv2112.2).bind fun x2228=>
 (ix rv2039 0).bind fun x2241=>
 some ((x2228.e0 == x2241.e0) && ((x2228.e1 == x2241.e1) && true))
 else
 some false).bind fun c2248=>
 (some (w64 (sv2112.2+1))).bind fun k2276=>
 some (Sum.inl (c2248,k2276))
 else
 some (Sum.inr sv2112.1))
def a2u (sv1126:((List Overlap) × Int)) (out2368:(List Overlap)):Option (((List Overlap) × Int) ⊕ (List Overlap)):=
 a0M sv1126 out2368
def N8 (rv17:((List Record) × Int)) (e623:(List Int)) (sv1126:((List Overlap) × Int)):Option (((List Overlap) × Int) ⊕ (List Overlap)):=
 (if (decide ((w64 (sv1126.2+1))<(e623.length:Int)))=true then
 (ix e623 sv1126.2).bind fun x2027=>
 (a8A rv17.1 x2027).bind fun rv2039=>
 (if (decide ((rv2039.length:Int)<2))=true then
 some true
 else
 (ix e623 sv1126.2).bind fun x2051=>
 (ix e623 (w64 (sv1126.2+1))).bind fun x2060=>
 some (decide (x2060≤x2051))).bind fun c2067=>
 (if c2067=true then
 a0M sv1126 sv1126.1
 else
 (ix e623 sv1126.2).bind fun x2094=>
 (ix e623 (w64 (sv1126.2+1))).bind fun x2103=>
 (l9 (a1O rv2039) (true,1)).bind fun e2198=>
 (some (sv1126.1.length:Int)).bind fun n2279=>
 (if (decide (0<n2279))=true then
 (ix sv1126.1 (w64 (n2279 - 1))).bind fun x2282=>
 some (x2282.To == x2094)
 else
 some false).bind fun c2293=>
 (if c2293=true then
 (ix sv1126.1 (w64 (n2279 - 1))).bind fun x2296=>
 some (x2296.Same == e2198)
 else
 some false).bind fun c2307=>
 (if c2307=true then
 (ix sv1126.1 (w64 (n2279 - 1))).bind fun x2372=>
 (a3X sv1126.1 (w64 (n2279 - 1)) (⟨x2372.From,x2103,x2372.Same⟩:Overlap)).bind fun l2384=>
 a2u sv1126 l2384
 else
 (U8 24 sv1126.1 ([(⟨x2094,x2103,e2198⟩:Overlap)]:List Overlap)).bind fun l2390=>
 a2u sv1126 l2390))
 else
 some (Sum.inr sv1126.1))
def a4o (l1:(List Record)) (from5:Int) (to6:Int):Option ((List Overlap) × Int):=
 (a4r l1 from5 to6).bind fun rv8=>
 (if (rv8 != 0)=true then
 some (([]:List Overlap),rv8)
 else
 (a2E l1).bind fun rv17=>
 (l9 (R6 from5 to6 rv17) (([from5,to6]:List Int),0)).bind fun e623=>
 (l9 (N8 rv17 e623) (([]:List Overlap),0)).bind fun e1797=>
 (if (decide (4096<(e1797.length:Int)))=true then
 some (([]:List Overlap),8)
 else
 some (e1797,0)))
def a2j (a1:(List Overlap)) (b5:(List Overlap)) (sv109:Int):Option (Int ⊕ Bool):=
 (if (decide (sv109<(a1.length:Int)))=true then
 (ix a1 sv109).bind fun x241=>
 (ix b5 sv109).bind fun x254=>
 (if (!((x241.From == x254.From) && ((x241.To == x254.To) && ((x241.Same == x254.Same) && true))))=true then
 some (Sum.inr false)
 else
 (some (w64 (sv109+1))).bind fun i270=>
 some (Sum.inl i270))
 else
 Option.map Sum.inr (some true))
def a1P (a1:(List Overlap)) (b5:(List Overlap)):Option Bool:=
 (if ((a1.length:Int) != (b5.length:Int))=true then
 some false
 else
 l9 (a2j a1 b5) (0))
def a1b (sv17:(Int × Int)) (n179:Int):Option ((Int × Int) ⊕ Int):=
 some (Sum.inl (n179,(w64 (sv17.2+1))))
def a0f (t5:Int) (rv7:((List Record) × Int)) (sv17:(Int × Int)):Option ((Int × Int) ⊕ Int):=
 (if (decide (sv17.2<(rv7.1.length:Int)))=true then
 (ix rv7.1 sv17.2).bind fun x152=>
 (a1e x152 t5).bind fun rv169=>
 (if rv169.2.2=true then
 (some (w64 (sv17.1+1))).bind fun n182=>
 a1b sv17 n182
 else
 a1b sv17 sv17.1)
 else
 some (Sum.inr sv17.1))
def U9 (l1:(List Record)) (t5:Int):Option Int:=
 (a0U l1).bind fun rv7=>
 (l9 (a0f t5 rv7) (0,0)).bind fun e116=>
 some e116
def a3V (l1:(List Record)) (t5:Int):Option Int:=
 (a2E l1).bind fun rv7=>
 (if (rv7.2 != 0)=true then
 some 0
 else
 (a8A rv7.1 t5).bind fun rv20=>
 (some (rv20.length:Int)).bind fun x32=>
 some x32)
def a4S (a1:Record) (b5:Record):Option Bool:=
 (cmp_Compare_int a1.Error b5.Error).bind fun rv12=>
 (cmp_Compare_int b5.Run a1.Run).bind fun rv14=>
 (cmp_Compare_int b5.Seq a1.Seq).bind fun rv16=>
 (J8 a1 b5).bind fun rv18=>
 (a4G ([rv12,rv14,rv16,rv18]:List Int)).bind fun rv22=>
 some (decide (rv22<0))
def a2R (r1:Record) (sv6:((List Int) × Int)):Option (((List Int) × Int) ⊕ (List Int)):=
 (if (decide (sv6.2<(w64 ((r1.Samples.length:Int)+1))))=true then
 (a4H r1 sv6.2).bind fun rv85=>
 (U8 8 sv6.1 ([rv85]:List Int)).bind fun l94=>
 some (Sum.inl (l94,(w64 (sv6.2+1))))
 else
 some (Sum.inr sv6.1))
def a4P (r1:Record):Option (List Int):=
 (l9 (a2R r1) (([]:List Int),0)).bind fun e63=>
 some e63
def a5p (better5:(List Span)) (rv11:(List Int)) (sv25:((List Bool) × Int × Int)) (sv631:Int):Option (Int ⊕ Int):=
 (if (decide (sv631<(better5.length:Int)))=true then
 (ix better5 sv631).bind fun x734=>
 (ix rv11 sv25.2.2).bind fun x747=>
 some (decide (x734.To≤x747))
 else
 some false).bind fun c758=>
 (if c758=true then
 (some (w64 (sv631+1))).bind fun k794=>
 some (Sum.inl k794)
 else
 some (Sum.inr sv631))
def a1V (better5:(List Span)) (rv11:(List Int)) (l22:(List Bool)) (sv25:((List Bool) × Int × Int)):Option (((List Bool) × Int × Int) ⊕ (List Bool)):=
 (if (decide (sv25.2.2<(l22.length:Int)))=true then
 (l9 (a5p better5 rv11 sv25) (sv25.2.1)).bind fun e730=>
 (if (e730 == (better5.length:Int))=true then
 some true
 else
 (ix better5 e730).bind fun x798=>
 (ix rv11 (w64 (sv25.2.2+1))).bind fun x811=>
 some (decide (x811≤x798.From))).bind fun c822=>
 (ix sv25.1 sv25.2.2).bind fun x825=>
 (a3X sv25.1 sv25.2.2 c822).bind fun l837=>
 some (Sum.inl (l837,e730,(w64 (sv25.2.2+1))))
 else
 some (Sum.inr sv25.1))
def a5C (r1:Record) (better5:(List Span)):Option (List Bool):=
 (a4P r1).bind fun rv11=>
 (b1e 1 (false:Bool) (r1.Samples.length:Int)).bind fun l22=>
 (l9 (a1V better5 rv11 l22) (l22,0,0)).bind fun e478=>
 some e478
def a6a (r1:Record) (from5:Int) (to6:Int):Option Record:=
 (a0e r1.Samples from5 to6).bind fun l14=>
 (K7 l14).bind fun rv16=>
 some (⟨r1.Source,r1.Start,(w64 (r1.First+from5)),r1.Rate,r1.Error,r1.Run,r1.Seq,rv16⟩:Record)
def a7P (r1:Record) (from5:Int) (to6:Int):Option (Record × Int):=
 (W9 r1).bind fun rv10=>
 (if (!rv10)=true then
 some ((⟨(⟨ByteArray.empty,ByteArray.empty,ByteArray.empty,ByteArray.empty⟩:SourceID),0,0,(⟨0,0⟩:Rate),0,0,0,([]:List Int)⟩:Record),1)
 else
 (if (((decide (from5<0)) || (decide (to6≤from5))) || (decide ((r1.Samples.length:Int)<to6)))=true then
 some ((⟨(⟨ByteArray.empty,ByteArray.empty,ByteArray.empty,ByteArray.empty⟩:SourceID),0,0,(⟨0,0⟩:Rate),0,0,0,([]:List Int)⟩:Record),2)
 else
 (a6a r1 from5 to6).bind fun rv23=>
 some (rv23,0)))
def a5r (keep5:(List Bool)) (sv562:Int):Option (Int ⊕ Int):=
 ((if (decide (sv562<(keep5.length:Int)))=true then
 (ix keep5 sv562).bind fun x684=>
 some x684
 else
 some false)).bind fun c680=>
 (if c680=true then
 (some (w64 (sv562+1))).bind fun to700=>
 some (Sum.inl to700)
 else
 some (Sum.inr sv562))
def a3D (out727:(List Record)) (fromv728:Int):Option (((List Record) × Int) ⊕ (List Record)):=
 (some (w64 (fromv728+1))).bind fun fromv730=>
 some (Sum.inl (out727,fromv730))
def a5q (r1:Record) (keep5:(List Bool)) (sv10:((List Record) × Int)):Option (((List Record) × Int) ⊕ (List Record)):=
 (if (decide (sv10.2<(keep5.length:Int)))=true then
 (l9 (a5r keep5) (sv10.2)).bind fun e664=>
 (if (decide (sv10.2<e664))=true then
 (a7P r1 sv10.2 e664).bind fun rv733=>
 (U8 144 sv10.1 ([rv733.1]:List Record)).bind fun l748=>
 a3D l748 e664
 else
 a3D sv10.1 sv10.2)
 else
 some (Sum.inr sv10.1))
def a2Q (r1:Record) (keep5:(List Bool)):Option (List Record):=
 (l9 (a5q r1 keep5) (([]:List Record),0)).bind fun e424=>
 some e424
def a1y (sv796:((List Span) × Int)) (better1022:(List Span)):Option (((List Span) × Int) ⊕ (List Span)):=
 some (Sum.inl (better1022,(w64 (sv796.2+1))))
def a1A (rv6:(List Record)) (x780:Record) (sv796:((List Span) × Int)):Option (((List Span) × Int) ⊕ (List Span)):=
 (if (decide (sv796.2<(rv6.length:Int)))=true then
 (ix rv6 sv796.2).bind fun x984=>
 (a4S x984 x780).bind fun rv997=>
 (if rv997=true then
 (a2y x984).bind fun rv1025=>
 (U8 16 sv796.1 ([rv1025]:List Span)).bind fun l1034=>
 a1y sv796 l1034
 else
 a1y sv796 sv796.1)
 else
 some (Sum.inr sv796.1))
def a1z (rv6:(List Record)) (sv16:((List Record) × Int)):Option (((List Record) × Int) ⊕ (List Record)):=
 (if (decide (sv16.2<(rv6.length:Int)))=true then
 (ix rv6 sv16.2).bind fun x780=>
 (l9 (a1A rv6 x780) (([]:List Span),0)).bind fun e934=>
 (a2K e934).bind fun rv1040=>
 (a5C x780 rv1040).bind fun rv1046=>
 (a2Q x780 rv1046).bind fun rv1052=>
 (U8 144 sv16.1 rv1052).bind fun l1058=>
 some (Sum.inl (l1058,(w64 (sv16.2+1))))
 else
 some (Sum.inr sv16.1))
def a1U (l1:(List Record)):Option (List Record):=
 (a3r l1).bind fun rv6=>
 (l9 (a1z rv6) (([]:List Record),0)).bind fun e586=>
 (H6 e586 J8).bind fun rv1084=>
 some rv1084
def a0z (l1:(List Record)):Option ((List Record) × Int):=
 (V6 l1).bind fun rv6=>
 (if (!rv6)=true then
 some (([]:List Record),1)
 else
 (a1U l1).bind fun rv15=>
 some (rv15,0))
def a4Q (n1:Int) (low2:Int) (high3:Int):Option Bool:=
 some ((decide (low2≤n1)) && (decide (n1≤high3)))
def a3F (n1:Int):Option Int:=
 (some (max n1 (w64 (0 - n1)))).bind fun x3=>
 some x3
def U6 (sv23:(List Int)):Option (List Int):=
 some sv23
def a0j (n1:Int):Option (List Int):=
 (if (decide (n1<0))=true then
 none
 else
 (some (w64 (n1 - (w64 (((0:Nat):Int) - (([]:List Int).length:Int)))))).bind fun n5=>
 (if (decide (0<n5))=true then
 (a0e ([]:List Int) 0 ((0:Nat):Int)).bind fun l28=>
 (b1e 8 (0:Int) n5).bind fun l30=>
 (a0e l30 0 (([]:List Int).length:Int)).bind fun l36=>
 U6 l36
 else
 U6 ([]:List Int)))
def O9 (slices1:(List (List Int))) (sv5:(Int × Int)):Option ((Int × Int) ⊕ Int):=
 (if (decide (sv5.2<(slices1.length:Int)))=true then
 (ix slices1 sv5.2).bind fun x100=>
 (some (w64 (sv5.1+(x100.length:Int)))).bind fun size116=>
 (if (decide (size116<0))=true then
 none
 else
 some (Sum.inl (size116,(w64 (sv5.2+1)))))
 else
 some (Sum.inr sv5.1))
def P5 (slices1:(List (List Int))) (sv131:((List Int) × Int)):Option (((List Int) × Int) ⊕ (List Int)):=
 (if (decide (sv131.2<(slices1.length:Int)))=true then
 (ix slices1 sv131.2).bind fun x243=>
 (U8 8 sv131.1 x243).bind fun l259=>
 some (Sum.inl (l259,(w64 (sv131.2+1))))
 else
 some (Sum.inr sv131.1))
def a0i (slices1:(List (List Int))):Option (List Int):=
 (l9 (O9 slices1) (0,0)).bind fun e74=>
 (a0j e74).bind fun rv121=>
 (l9 (P5 slices1) (rv121,0)).bind fun e212=>
 some e212
def U0 (s1:Segment):Option Record:=
 some (⟨(⟨(⟨#[78]⟩:ByteArray),(⟨#[83]⟩:ByteArray),ByteArray.empty,(⟨#[67,72,65]⟩:ByteArray)⟩:SourceID),s1.Start,s1.First,s1.Rate,s1.Error,0,0,s1.Samples⟩:Record)
def L6 (s1:Segment):Option Bool:=
 (U0 s1).bind fun rv7=>
 (W9 rv7).bind fun rv17=>
 some rv17
def H9 (b1:Continuity_builder) (r5:Record) (tolerance9:Int):Option (Continuity_builder × Bool):=
 (if ((!((r5.Rate.Num == b1.Segment.Rate.Num) && ((r5.Rate.Den == b1.Segment.Rate.Den) && true))) || ((b1.Segment.Samples.length:Int) == 0))=true then
 some (b1,false)
 else
 (a2V b1.Segment.Start b1.Segment.Rate (w64 (b1.Segment.First+(b1.Segment.Samples.length:Int)))).bind fun rv17=>
 (a0V r5 0).bind fun rv24=>
 (a3F (w64 (rv24 - rv17.1))).bind fun rv31=>
 (if (decide (tolerance9<rv31))=true then
 some (b1,false)
 else
 (a0i ([b1.Segment.Samples,r5.Samples]:List (List Int))).bind fun rv42=>
 (L6 (⟨b1.Segment.Start,b1.Segment.First,b1.Segment.Rate,(min (w64 ((max b1.worst_ r5.Error)+(max b1.off_ rv31))) 1099511627776),rv42⟩:Segment)).bind fun rv181=>
 some ((⟨(⟨b1.Segment.Start,b1.Segment.First,b1.Segment.Rate,(min (w64 ((max b1.worst_ r5.Error)+(max b1.off_ rv31))) 1099511627776),rv42⟩:Segment),(max b1.worst_ r5.Error),(max b1.off_ rv31)⟩:Continuity_builder),rv181)))
def J7 (sv29:(Int × Int × Int × Int × Int × (List Int) × Int × Int × (List Segment) × Int)) (x439:Int) (x440:Int) (x441:Int) (x442:Int) (x443:Int) (x444:(List Int)) (x445:Int) (x446:Int) (out447:(List Segment)):Option ((Int × Int × Int × Int × Int × (List Int) × Int × Int × (List Segment) × Int) ⊕ (List Segment)):=
 some (Sum.inl (x439,x440,x441,x442,x443,x444,x445,x446,out447,(w64 (sv29.2.2.2.2.2.2.2.2.2+1))))
def M4 (tolerance5:Int) (rv7:((List Record) × Int)) (sv29:(Int × Int × Int × Int × Int × (List Int) × Int × Int × (List Segment) × Int)):Option ((Int × Int × Int × Int × Int × (List Int) × Int × Int × (List Segment) × Int) ⊕ (List Segment)):=
 (if (decide (sv29.2.2.2.2.2.2.2.2.2<(rv7.1.length:Int)))=true then
 (ix rv7.1 sv29.2.2.2.2.2.2.2.2.2).bind fun x450=>
 (H9 (⟨(⟨sv29.1,sv29.2.1,(⟨sv29.2.2.1,sv29.2.2.2.1⟩:Rate),sv29.2.2.2.2.1,sv29.2.2.2.2.2.1⟩:Segment),sv29.2.2.2.2.2.2.1,sv29.2.2.2.2.2.2.2.1⟩:Continuity_builder) x450 tolerance5).bind fun rv467=>
 (if rv467.2=true then
 (ix sv29.2.2.2.2.2.2.2.2.1 (w64 ((sv29.2.2.2.2.2.2.2.2.1.length:Int) - 1))).bind fun x502=>
 (a3X sv29.2.2.2.2.2.2.2.2.1 (w64 ((sv29.2.2.2.2.2.2.2.2.1.length:Int) - 1)) rv467.1.Segment).bind fun l518=>
 J7 sv29 rv467.1.Segment.Start rv467.1.Segment.First rv467.1.Segment.Rate.Num rv467.1.Segment.Rate.Den rv467.1.Segment.Error rv467.1.Segment.Samples rv467.1.worst_ rv467.1.off_ l518
 else
 (K7 x450.Samples).bind fun rv522=>
 (U8 64 sv29.2.2.2.2.2.2.2.2.1 ([(⟨x450.Start,x450.First,x450.Rate,x450.Error,rv522⟩:Segment)]:List Segment)).bind fun l537=>
 J7 sv29 x450.Start x450.First x450.Rate.Num x450.Rate.Den x450.Error rv522 x450.Error 0 l537)
 else
 some (Sum.inr sv29.2.2.2.2.2.2.2.2.1))
def M8 (l1:(List Record)) (tolerance5:Int):Option ((List Segment) × Int):=
 (a0z l1).bind fun rv7=>
 (if (rv7.2 != 0)=true then
 some (([]:List Segment),rv7.2)
 else
 (a4Q tolerance5 0 1000000).bind fun rv20=>
 (if (!rv20)=true then
 some (([]:List Segment),2)
 else
 (l9 (M4 tolerance5 rv7) (0,0,0,0,0,([]:List Int),0,0,([]:List Segment),0)).bind fun e360=>
 some (e360,0)))
def a3L (a1:Record) (b5:Record) (rv12:Int) (rv14:Int) (rv16:Int) (sv50:Int):Option (Int ⊕ Bool):=
 (if (decide (sv50<3))=true then
 (ix ([rv12,rv14,rv16]:List Int) sv50).bind fun x75=>
 (if (x75 != 0)=true then
 some (Sum.inr (decide (x75<0)))
 else
 some (Sum.inl (w64 (sv50+1))))
 else
 Option.map Sum.inr ((a0X a1 b5).bind fun rv80=>
 some (decide (rv80<0))))
def a5F (a1:Record) (b5:Record):Option Bool:=
 (K8 a1.Error b5.Error).bind fun rv12=>
 (K8 b5.Run a1.Run).bind fun rv14=>
 (K8 b5.Seq a1.Seq).bind fun rv16=>
 l9 (a3L a1 b5 rv12 rv14 rv16) (0)
def a6E (a1:(List Span)) (b5:(List Span)):Option (List Span):=
 (U8 16 ([]:List Span) a1).bind fun l10=>
 (U8 16 l10 b5).bind fun l15=>
 (X0 l15).bind fun rv20=>
 some rv20
def a5a (sv871:((List Span) × Int)) (out1193:(List Span)):Option (((List Span) × Int) ⊕ (List Span)):=
 (some (w64 (sv871.2+1))).bind fun k1195=>
 some (Sum.inl (out1193,k1195))
def a5c (rv10:(List Span)) (rv21:(List Span)) (sv31:((List Span) × Int)) (sv871:((List Span) × Int)):Option (((List Span) × Int) ⊕ (List Span)):=
 (if (decide (sv871.2<(rv21.length:Int)))=true then
 (ix rv10 sv31.2).bind fun x1137=>
 (ix rv21 sv871.2).bind fun x1150=>
 (ix rv10 sv31.2).bind fun x1163=>
 (ix rv21 sv871.2).bind fun x1172=>
 (if (decide ((max x1137.From x1150.From)<(min x1163.To x1172.To)))=true then
 (U8 16 sv871.1 ([(⟨(max x1137.From x1150.From),(min x1163.To x1172.To)⟩:Span)]:List Span)).bind fun l1200=>
 a5a sv871 l1200
 else
 a5a sv871 sv871.1)
 else
 some (Sum.inr sv871.1))
def a5b (rv10:(List Span)) (rv21:(List Span)) (sv31:((List Span) × Int)):Option (((List Span) × Int) ⊕ (List Span)):=
 (if (decide (sv31.2<(rv10.length:Int)))=true then
 (l9 (a5c rv10 rv21 sv31) (sv31.1,0)).bind fun e1069=>
 (some (w64 (sv31.2+1))).bind fun i1206=>
 some (Sum.inl (e1069,i1206))
 else
 some (Sum.inr sv31.1))
def a6b (a1:(List Span)) (b5:(List Span)):Option (List Span):=
 (X0 a1).bind fun rv10=>
 (X0 b5).bind fun rv21=>
 (l9 (a5b rv10 rv21) (([]:List Span),0)).bind fun e661=>
 (X0 e661).bind fun rv1210=>
 some rv1210
def a7j (l1:(List Span)) (from5:Int) (to6:Int):Option (List Span):=
 (a6b l1 ([(⟨from5,to6⟩:Span)]:List Span)).bind fun rv10=>
 some rv10
def a7k (r1:Record) (from5:Int) (to6:Int):Option (Record × Int):=
 (X7 r1).bind fun rv10=>
 (if (!rv10)=true then
 some ((⟨(⟨ByteArray.empty,ByteArray.empty,ByteArray.empty,ByteArray.empty⟩:SourceID),0,0,(⟨0,0⟩:Rate),0,0,0,([]:List Int)⟩:Record),1)
 else
 (if (((decide (from5<0)) || (decide (to6≤from5))) || (decide ((r1.Samples.length:Int)<to6)))=true then
 some ((⟨(⟨ByteArray.empty,ByteArray.empty,ByteArray.empty,ByteArray.empty⟩:SourceID),0,0,(⟨0,0⟩:Rate),0,0,0,([]:List Int)⟩:Record),2)
 else
 (a0e r1.Samples from5 to6).bind fun l28=>
 (U8 8 ([]:List Int) l28).bind fun l30=>
 some ((⟨r1.Source,r1.Start,(w64 (r1.First+from5)),r1.Rate,r1.Error,r1.Run,r1.Seq,l30⟩:Record),0)))
def a3d (sv2521:((List Span) × Int)) (better2927:(List Span)):Option (((List Span) × Int) ⊕ (List Span)):=
 (some (w64 (sv2521.2+1))).bind fun k2929=>
 some (Sum.inl (better2927,k2929))
def a0I (rv15:(List Record)) (sv25:((List Record) × Int)) (sv2521:((List Span) × Int)):Option (((List Span) × Int) ⊕ (List Span)):=
 (if (decide (sv2521.2<(rv15.length:Int)))=true then
 (ix rv15 sv2521.2).bind fun x2850=>
 (ix rv15 sv25.2).bind fun x2867=>
 (a5F x2850 x2867).bind fun rv2879=>
 (if rv2879=true then
 (ix rv15 sv2521.2).bind fun x2933=>
 (a2D x2933).bind fun rv2945=>
 (a6E sv2521.1 ([rv2945.1]:List Span)).bind fun rv2955=>
 a3d sv2521 rv2955
 else
 a3d sv2521 sv2521.1)
 else
 some (Sum.inr sv2521.1))
def a3f (sv2968:((List Record) × Int × Int)) (out3598:(List Record)) (first3599:Int):Option (((List Record) × Int × Int) ⊕ (List Record)):=
 (some (w64 (sv2968.2.2+1))).bind fun j3601=>
 some (Sum.inl (out3598,first3599,j3601))
def a3e (rv15:(List Record)) (sv25:((List Record) × Int)) (sv2968:((List Record) × Int × Int)) (c3499:Bool) (first3558:Int):Option (((List Record) × Int × Int) ⊕ (List Record)):=
 (if ((!c3499) && (decide (0≤first3558)))=true then
 (ix rv15 sv25.2).bind fun x3605=>
 (a7k x3605 first3558 sv2968.2.2).bind fun rv3617=>
 (U8 144 sv2968.1 ([rv3617.1]:List Record)).bind fun l3632=>
 a3f sv2968 l3632 (-1)
 else
 a3f sv2968 sv2968.1 first3558)
def a0J (rv15:(List Record)) (sv25:((List Record) × Int)) (e2766:(List Span)) (sv2968:((List Record) × Int × Int)):Option (((List Record) × Int × Int) ⊕ (List Record)):=
 (ix rv15 sv25.2).bind fun x3337=>
 (if (decide (sv2968.2.2≤(x3337.Samples.length:Int)))=true then
 (ix rv15 sv25.2).bind fun x3452=>
 (if (decide (sv2968.2.2<(x3452.Samples.length:Int)))=true then
 (ix rv15 sv25.2).bind fun x3465=>
 (J4 x3465 sv2968.2.2).bind fun rv3477=>
 (ix rv15 sv25.2).bind fun x3480=>
 (J4 x3480 (w64 (sv2968.2.2+1))).bind fun rv3492=>
 (a7j e2766 rv3477 rv3492).bind fun rv3494=>
 some ((rv3494.length:Int) == 0)
 else
 some false).bind fun c3499=>
 (if (c3499 && (decide (sv2968.2.1<0)))=true then
 a3e rv15 sv25 sv2968 c3499 sv2968.2.2
 else
 a3e rv15 sv25 sv2968 c3499 sv2968.2.1)
 else
 some (Sum.inr sv2968.1))
def a3g (rv15:(List Record)) (sv25:((List Record) × Int)):Option (((List Record) × Int) ⊕ (List Record)):=
 (if (decide (sv25.2<(rv15.length:Int)))=true then
 (l9 (a0I rv15 sv25) (([]:List Span),0)).bind fun e2766=>
 (l9 (a0J rv15 sv25 e2766) (sv25.1,(-1),0)).bind fun e3330=>
 (some (w64 (sv25.2+1))).bind fun i3639=>
 some (Sum.inl (e3330,i3639))
 else
 some (Sum.inr sv25.1))
def a3y (l1:(List Record)):Option ((List Record) × Int):=
 (a0K l1).bind fun rv6=>
 (if (!rv6)=true then
 some (([]:List Record),1)
 else
 (a2F l1).bind fun rv15=>
 (l9 (a3g rv15) (([]:List Record),0)).bind fun e1897=>
 (a2F e1897).bind fun rv3644=>
 some (rv3644,0))
def a0p (s1:Segment):Option Record:=
 some (⟨(⟨(⟨#[65]⟩:ByteArray),(⟨#[65]⟩:ByteArray),ByteArray.empty,(⟨#[65,65,65]⟩:ByteArray)⟩:SourceID),s1.Start,s1.First,s1.Rate,s1.Error,0,0,s1.Samples⟩:Record)
def V4 (s1:Segment):Option Bool:=
 (a0p s1).bind fun rv7=>
 (X7 rv7).bind fun rv17=>
 some rv17
def a0N (sv28:((List Segment) × Int × Int × Int)) (out827:(List Segment)) (worst828:Int) (off829:Int):Option (((List Segment) × Int × Int × Int) ⊕ (List Segment)):=
 (some (w64 (sv28.2.2.2+1))).bind fun i831=>
 some (Sum.inl (out827,worst828,off829,i831))
def a0O (sv28:((List Segment) × Int × Int × Int)) (x834:Record):Option (((List Segment) × Int × Int × Int) ⊕ (List Segment)):=
 (U8 8 ([]:List Int) x834.Samples).bind fun l988=>
 (U8 64 sv28.1 ([(⟨x834.Start,x834.First,x834.Rate,x834.Error,l988⟩:Segment)]:List Segment)).bind fun l995=>
 a0N sv28 l995 x834.Error 0
def a0P (sv28:((List Segment) × Int × Int × Int)) (x834:Record):Option (((List Segment) × Int × Int × Int) ⊕ (List Segment)):=
 a0O sv28 x834
def a2w (tolerance5:Int) (rv7:((List Record) × Int)) (sv28:((List Segment) × Int × Int × Int)):Option (((List Segment) × Int × Int × Int) ⊕ (List Segment)):=
 (if (decide (sv28.2.2.2<(rv7.1.length:Int)))=true then
 (ix rv7.1 sv28.2.2.2).bind fun x834=>
 (some (sv28.1.length:Int)).bind fun n851=>
 (if (decide (0<n851))=true then
 (ix sv28.1 (w64 (n851 - 1))).bind fun x854=>
 some ((x854.Rate.Num == x834.Rate.Num) && ((x854.Rate.Den == x834.Rate.Den) && true))
 else
 some false).bind fun c869=>
 (if c869=true then
 (ix sv28.1 (w64 (n851 - 1))).bind fun x1004=>
 (a4J x1004.Start x1004.Rate (w64 (x1004.First+(x1004.Samples.length:Int)))).bind fun rv1021=>
 (J4 x834 0).bind fun rv1028=>
 (some (w64 (rv1028 - rv1021.1))).bind fun d1035=>
 ((if (rv1021.2 == 0)=true then
 (X6 d1035 (w64 (0 - tolerance5)) tolerance5).bind fun rv1047=>
 some rv1047
 else
 some false)).bind fun c1044=>
 (if c1044=true then
 (some (max sv28.2.1 x834.Error)).bind fun wv1098=>
 (some (max sv28.2.2.1 (max d1035 (w64 (0 - d1035))))).bind fun o1100=>
 (U8 8 ([]:List Int) x1004.Samples).bind fun l1102=>
 (U8 8 l1102 x834.Samples).bind fun l1107=>
 (V4 (⟨x1004.Start,x1004.First,x1004.Rate,(min (w64 (wv1098+o1100)) 1099511627776),l1107⟩:Segment)).bind fun rv1113=>
 (if rv1113=true then
 (ix sv28.1 (w64 (n851 - 1))).bind fun x1141=>
 (a3X sv28.1 (w64 (n851 - 1)) (⟨x1004.Start,x1004.First,x1004.Rate,(min (w64 (wv1098+o1100)) 1099511627776),l1107⟩:Segment)).bind fun l1153=>
 a0N sv28 l1153 wv1098 o1100
 else
 a0P sv28 x834)
 else
 a0P sv28 x834)
 else
 a0O sv28 x834)
 else
 some (Sum.inr sv28.1))
def a1k (l1:(List Record)) (tolerance5:Int):Option ((List Segment) × Int):=
 (a3y l1).bind fun rv7=>
 (if (rv7.2 != 0)=true then
 some (([]:List Segment),rv7.2)
 else
 (X6 tolerance5 0 1000000).bind fun rv20=>
 (if (!rv20)=true then
 some (([]:List Segment),2)
 else
 (l9 (a2w tolerance5 rv7) (([]:List Segment),0,0,0)).bind fun e668=>
 some (e668,0)))
def a4Z (a1:(List Int)) (b5:(List Int)) (sv109:Int):Option (Int ⊕ Bool):=
 (if (decide (sv109<(a1.length:Int)))=true then
 (ix a1 sv109).bind fun x241=>
 (ix b5 sv109).bind fun x254=>
 (if (x241 != x254)=true then
 some (Sum.inr false)
 else
 (some (w64 (sv109+1))).bind fun i270=>
 some (Sum.inl i270))
 else
 Option.map Sum.inr (some true))
def a7Q (a1:(List Int)) (b5:(List Int)):Option Bool:=
 (if ((a1.length:Int) != (b5.length:Int))=true then
 some false
 else
 l9 (a4Z a1 b5) (0))
def a2l (a1:(List Segment)) (b5:(List Segment)) (sv439:Int):Option (Int ⊕ Bool):=
 (if (decide (sv439<(a1.length:Int)))=true then
 (ix a1 sv439).bind fun x1011=>
 (ix b5 sv439).bind fun x1028=>
 (if (x1011.Start != x1028.Start)=true then
 some true
 else
 (ix a1 sv439).bind fun x1045=>
 (ix b5 sv439).bind fun x1057=>
 some (x1045.First != x1057.First)).bind fun c1067=>
 (if c1067=true then
 some true
 else
 (ix a1 sv439).bind fun x1070=>
 (ix b5 sv439).bind fun x1082=>
 some (!((x1070.Rate.Num == x1082.Rate.Num) && ((x1070.Rate.Den == x1082.Rate.Den) && true)))).bind fun c1092=>
 (if c1092=true then
 some true
 else
 (ix a1 sv439).bind fun x1095=>
 (ix b5 sv439).bind fun x1107=>
 some (x1095.Error != x1107.Error)).bind fun c1117=>
 (if c1117=true then
 some true
 else
 (ix a1 sv439).bind fun x1120=>
 (ix b5 sv439).bind fun x1132=>
 (a7Q x1120.Samples x1132.Samples).bind fun rv1143=>
 some (!rv1143)).bind fun c1144=>
 (if c1144=true then
 some (Sum.inr false)
 else
 (some (w64 (sv439+1))).bind fun i1277=>
 some (Sum.inl i1277))
 else
 Option.map Sum.inr (some true))
def a0o (a1:(List Segment)) (b5:(List Segment)):Option Bool:=
 (if ((a1.length:Int) != (b5.length:Int))=true then
 some false
 else
 l9 (a2l a1 b5) (0))
def a0G (sv19:((List Int) × Int × (List Int) × Int × Int)) (x517:(List Int)) (x518:Int) (loud519:Int) (x520:Int):Option (((List Int) × Int × (List Int) × Int × Int) ⊕ ((List Int) × Int × (List Int))):=
 (U8 8 sv19.2.2.1 ([x520]:List Int)).bind fun l524=>
 (some (w64 (sv19.2.2.2.2 - 1))).bind fun i529=>
 some (Sum.inl (x517,x518,l524,loud519,i529))
def a0F (sv19:((List Int) × Int × (List Int) × Int × Int)) (x474:(List Int)) (x475:Int) (loud476:Int):Option (((List Int) × Int × (List Int) × Int × Int) ⊕ ((List Int) × Int × (List Int))):=
 (y9 (⟨x474,x475⟩:Dice) 5).bind fun rv478=>
 (some (w64 (rv478.1 - 2))).bind fun x488=>
 (if (decide (0<loud476))=true then
 (y9 rv478.2 60).bind fun rv532=>
 (y9 rv532.2 2).bind fun rv542=>
 (some (w64 ((w64 (rv532.1+20)) * (w64 (1 - (w64 (2 * rv542.1))))))).bind fun x552=>
 (some (w64 (loud476 - 1))).bind fun loud554=>
 a0G sv19 rv542.2.L rv542.2.At loud554 x552
 else
 a0G sv19 rv478.2.L rv478.2.At loud476 x488)
def a2s (sv19:((List Int) × Int × (List Int) × Int × Int)):Option (((List Int) × Int × (List Int) × Int × Int) ⊕ ((List Int) × Int × (List Int))):=
 (if (decide (0<sv19.2.2.2.2))=true then
 ((if (sv19.2.2.2.1 == 0)=true then
 (y9 (⟨sv19.1,sv19.2.1⟩:Dice) 7).bind fun rv449=>
 some (rv449.2.L,rv449.2.At,(rv449.1 == 0))
 else
 some (sv19.1,sv19.2.1,false))).bind fun c444=>
 (if c444.2.2=true then
 (y9 (⟨c444.1,c444.2.1⟩:Dice) 6).bind fun rv557=>
 (some (w64 (1+rv557.1))).bind fun loud567=>
 a0F sv19 rv557.2.L rv557.2.At loud567
 else
 a0F sv19 c444.1 c444.2.1 sv19.2.2.2.1)
 else
 some (Sum.inr (sv19.1,sv19.2.1,sv19.2.2.1)))
def a4e (d1:Dice) (n6:Int):Option ((List Int) × Dice):=
 (y9 d1 n6).bind fun rv8=>
 (some (w64 (1+rv8.1))).bind fun i18=>
 (l9 (a2s) (rv8.2.L,rv8.2.At,([]:List Int),0,i18)).bind fun e329=>
 some (e329.2.2,(⟨e329.1,e329.2.1⟩:Dice))
def Y4 (d1:Dice) (n6:Int):Option (Segment × Dice):=
 (y9 d1 3000000).bind fun rv9=>
 (F8 rv9.2 ([0,0,5]:List Int)).bind fun rv21=>
 (F8 rv21.2 ([1,4,20,3]:List Int)).bind fun rv34=>
 (F8 rv34.2 ([0,10,2000000]:List Int)).bind fun rv47=>
 (a4e rv47.2 n6).bind fun rv58=>
 some ((⟨(w64 (1000000000000+rv9.1)),rv21.1,(⟨rv34.1,1⟩:Rate),rv47.1,rv58.1⟩:Segment),rv58.2)
def H8 (s1:(List Segment)) (f5:Segment→Option Bool) (sv90:Int):Option (Int ⊕ Int):=
 (if (decide (sv90<(s1.length:Int)))=true then
 (ix s1 sv90).bind fun x200=>
 (f5 x200).bind fun rv216=>
 (if rv216=true then
 some (Sum.inr sv90)
 else
 some (Sum.inl (w64 (sv90+1))))
 else
 Option.map Sum.inr (some (-1)))
def M6 (s1:(List Segment)) (f5:Segment→Option Bool):Option Int:=
 l9 (H8 s1 f5) (0)
def H7 (s1:(List Segment)) (f5:Segment→Option Bool):Option Bool:=
 (M6 s1 f5).bind fun rv11=>
 some (decide (0≤rv11))
def a0s (s1:Segment):Option Bool:=
 (L6 s1).bind fun rv7=>
 some (!rv7)
def a4t (i98:Int) (j99:Int):Option ((Int × Int) ⊕ Int):=
 some (Sum.inl (i98,j99))
def a6j (f2:Int→Option Bool) (sv7:(Int × Int)):Option ((Int × Int) ⊕ Int):=
 (if (decide (sv7.1<sv7.2))=true then
 (shrM .u64 (IntKind.u64.wrap (w64 (sv7.1+sv7.2))) 1).bind fun shr85=>
 (some (w64 shr85)).bind fun h87=>
 (f2 h87).bind fun rv89=>
 (if (!rv89)=true then
 (some (w64 (h87+1))).bind fun i102=>
 a4t i102 sv7.2
 else
 a4t sv7.1 h87)
 else
 some (Sum.inr sv7.1))
def sort_Search (n1:Int) (f2:Int→Option Bool):Option Int:=
 (l9 (a6j f2) (0,n1)).bind fun e64=>
 some e64
def Y6 (i1:Int) (x2:Record) (x8:Int):Option Bool:=
 (a1u x2 (w64 (i1+1))).bind fun rv12=>
 some (decide (x8<rv12))
def a1f (i1:Int) (x2:Record) (x8:Int) (x11:Int):Option Bool:=
 (a1u x2 (w64 (i1+x8))).bind fun rv15=>
 some (decide (x11≤rv15))
def a5D (r1:Record) (offset5:Int) (t6:Int):Option Int:=
 (sort_Search (r1.Samples.length:Int) (fun y0=>a1f y0 r1 offset5 t6)).bind fun rv11=>
 some rv11
def a6B (r1:Record) (from5:Int) (to6:Int):Option (Record × Bool × Int):=
 (if (decide (to6≤from5))=true then
 some ((⟨(⟨ByteArray.empty,ByteArray.empty,ByteArray.empty,ByteArray.empty⟩:SourceID),0,0,(⟨0,0⟩:Rate),0,0,0,([]:List Int)⟩:Record),false,0)
 else
 (a6a r1 from5 to6).bind fun rv12=>
 some (rv12,true,0))
def a4T (r1:Record) (from5:Int) (to6:Int):Option (Record × Bool × Int):=
 (W9 r1).bind fun rv11=>
 (if (!rv11)=true then
 some ((⟨(⟨ByteArray.empty,ByteArray.empty,ByteArray.empty,ByteArray.empty⟩:SourceID),0,0,(⟨0,0⟩:Rate),0,0,0,([]:List Int)⟩:Record),false,1)
 else
 (sort_Search (r1.Samples.length:Int) (fun y0=>Y6 y0 r1 to6)).bind fun rv20=>
 (a5D r1 0 from5).bind fun rv27=>
 (a6B r1 rv27 rv20).bind fun rv29=>
 some (rv29.1,rv29.2.1,rv29.2.2))
def a0B (sv25:((List Segment) × Int)) (out321:(List Segment)):Option (((List Segment) × Int) ⊕ (List Segment)):=
 some (Sum.inl (out321,(w64 (sv25.2+1))))
def a0C (l1:(List Segment)) (from5:Int) (to6:Int) (sv25:((List Segment) × Int)):Option (((List Segment) × Int) ⊕ (List Segment)):=
 (if (decide (sv25.2<(l1.length:Int)))=true then
 (ix l1 sv25.2).bind fun x269=>
 (U0 x269).bind fun rv286=>
 (a4T rv286 from5 to6).bind fun rv296=>
 (if rv296.2.1=true then
 (U8 64 sv25.1 ([(⟨x269.Start,rv296.1.First,x269.Rate,x269.Error,rv296.1.Samples⟩:Segment)]:List Segment)).bind fun l328=>
 a0B sv25 l328
 else
 a0B sv25 sv25.1)
 else
 some (Sum.inr sv25.1))
def a2p (l1:(List Segment)) (from5:Int) (to6:Int):Option ((List Segment) × Int):=
 (H7 l1 a0s).bind fun rv8=>
 (if rv8=true then
 some (([]:List Segment),1)
 else
 (Y2 from5 to6).bind fun rv17=>
 (if (!rv17)=true then
 some (([]:List Segment),2)
 else
 (l9 (a0C l1 from5 to6) (([]:List Segment),0)).bind fun e205=>
 some (e205,0)))
def a2d (sv19:(Int × Int × Int)) (first326:Int) (last327:Int):Option ((Int × Int × Int) ⊕ (Int × Int)):=
 (some (w64 (sv19.2.2+1))).bind fun i329=>
 some (Sum.inl (first326,last327,i329))
def a3w (sv19:(Int × Int × Int)) (first333:Int):Option ((Int × Int × Int) ⊕ (Int × Int)):=
 a2d sv19 first333 sv19.2.2
def a2c (sv19:(Int × Int × Int)) (inv320:Bool):Option ((Int × Int × Int) ⊕ (Int × Int)):=
 (if inv320=true then
 (if (decide (sv19.1<0))=true then
 a3w sv19 sv19.2.2
 else
 a3w sv19 sv19.1)
 else
 a2d sv19 sv19.1 sv19.2.1)
def a3x (r1:Record) (from5:Int) (to6:Int) (whole7:Bool) (sv19:(Int × Int × Int)):Option ((Int × Int × Int) ⊕ (Int × Int)):=
 (if (decide (sv19.2.2<(r1.Samples.length:Int)))=true then
 (J4 r1 sv19.2.2).bind fun rv271=>
 ((if (decide (from5≤rv271))=true then
 (J4 r1 sv19.2.2).bind fun rv288=>
 some (decide (rv288<to6))
 else
 some false)).bind fun c285=>
 (if whole7=true then
 (J4 r1 sv19.2.2).bind fun rv337=>
 ((if (decide (from5≤rv337))=true then
 (J4 r1 (w64 (sv19.2.2+1))).bind fun rv354=>
 some (decide (rv354≤to6))
 else
 some false)).bind fun c351=>
 a2c sv19 c351
 else
 a2c sv19 c285)
 else
 some (Sum.inr (sv19.1,sv19.2.1)))
def a7R (r1:Record) (from5:Int) (to6:Int) (whole7:Bool):Option (Record × Bool × Int):=
 (X7 r1).bind fun rv11=>
 (if (!rv11)=true then
 some ((⟨(⟨ByteArray.empty,ByteArray.empty,ByteArray.empty,ByteArray.empty⟩:SourceID),0,0,(⟨0,0⟩:Rate),0,0,0,([]:List Int)⟩:Record),false,1)
 else
 (l9 (a3x r1 from5 to6 whole7) ((-1),(-1),0)).bind fun e208=>
 (if (decide (e208.1<0))=true then
 some ((⟨(⟨ByteArray.empty,ByteArray.empty,ByteArray.empty,ByteArray.empty⟩:SourceID),0,0,(⟨0,0⟩:Rate),0,0,0,([]:List Int)⟩:Record),false,0)
 else
 (a7k r1 e208.1 (w64 (e208.2+1))).bind fun rv364=>
 some (rv364.1,true,0)))
def a5G (r1:Record) (from5:Int) (to6:Int):Option (Record × Bool × Int):=
 (a7R r1 from5 to6 true).bind fun rv10=>
 some (rv10.1,rv10.2.1,rv10.2.2)
def a3M (sv276:((List Segment) × Int)) (out568:(List Segment)):Option (((List Segment) × Int) ⊕ (List Segment)):=
 (some (w64 (sv276.2+1))).bind fun i570=>
 some (Sum.inl (out568,i570))
def a0A (l1:(List Segment)) (from5:Int) (to6:Int) (sv276:((List Segment) × Int)):Option (((List Segment) × Int) ⊕ (List Segment)):=
 (if (decide (sv276.2<(l1.length:Int)))=true then
 (ix l1 sv276.2).bind fun x518=>
 (a0p x518).bind fun rv534=>
 (a5G rv534 from5 to6).bind fun rv544=>
 (if rv544.2.1=true then
 (U8 64 sv276.1 ([(⟨rv544.1.Start,rv544.1.First,rv544.1.Rate,rv544.1.Error,rv544.1.Samples⟩:Segment)]:List Segment)).bind fun l576=>
 a3M sv276 l576
 else
 a3M sv276 sv276.1)
 else
 some (Sum.inr sv276.1))
def a1Y (l1:(List Segment)) (from5:Int) (to6:Int) (sv125:Int):Option (Int ⊕ ((List Segment) × Int)):=
 (if (decide (sv125<(l1.length:Int)))=true then
 (ix l1 sv125).bind fun x245=>
 (V4 x245).bind fun rv261=>
 (if (!rv261)=true then
 some (Sum.inr (([]:List Segment),1))
 else
 (some (w64 (sv125+1))).bind fun i271=>
 some (Sum.inl i271))
 else
 Option.map Sum.inr ((if (((decide (from5<0)) || (decide (to6<from5))) || (decide (9007199254740992<to6)))=true then
 some (([]:List Segment),2)
 else
 (l9 (a0A l1 from5 to6) (([]:List Segment),0)).bind fun e456=>
 some (e456,0))))
def a3i (l1:(List Segment)) (from5:Int) (to6:Int):Option ((List Segment) × Int):=
 l9 (a1Y l1 from5 to6) (0)
def a5n (r1:Record):Option (Span × Int):=
 (W9 r1).bind fun rv8=>
 (if (!rv8)=true then
 some ((⟨0,0⟩:Span),1)
 else
 (a1u r1 0).bind fun rv17=>
 (a1u r1 (r1.Samples.length:Int)).bind fun rv19=>
 some ((⟨rv17,rv19⟩:Span),0))
def a0g (s1:Segment):Option (Span × Int):=
 (U0 s1).bind fun rv8=>
 (a5n rv8).bind fun rv18=>
 some (rv18.1,rv18.2)
def a2v (s1:Segment):Option (Span × Int):=
 (a0p s1).bind fun rv8=>
 (a2D rv8).bind fun rv18=>
 some (rv18.1,rv18.2)
def U3 (tolerance15:Int) (sv1909:((List Int) × Int × Int)) (x3643:(List Record)) (rv4381:(Int × Dice)) (sv4548:Int):Option (Int ⊕ (((List Int) × Int × Int) ⊕ Bool)):=
 (if (decide (sv4548<(([tolerance15,0,rv4381.1]:List Int).length:Int)))=true then
 (ix ([tolerance15,0,rv4381.1]:List Int) sv4548).bind fun x4758=>
 (M8 x3643 x4758).bind fun rv4766=>
 (a1k x3643 x4758).bind fun rv4777=>
 ((if (rv4766.2 != rv4777.2)=true then
 some true
 else
 (a0o rv4766.1 rv4777.1).bind fun rv4798=>
 some (!rv4798))).bind fun c4795=>
 (if c4795=true then
 some (Sum.inr (Sum.inr false))
 else
 some (Sum.inl (w64 (sv4548+1))))
 else
 Option.map Sum.inr (some (Sum.inl (rv4381.2.L,rv4381.2.At,(w64 (sv1909.2.2+1))))))
def U2 (from13:Int) (to14:Int) (tolerance15:Int) (sv1909:((List Int) × Int × Int)) (x3643:(List Record)) (rv3655:(Int × Dice)) (rv3665:(Int × Dice)) (sv3900:Int):Option (Int ⊕ (((List Int) × Int × Int) ⊕ Bool)):=
 (if (decide (sv3900<(([(⟨from13,to14⟩:(Arr2 Int)),(⟨1000000000000,1000015000000⟩:(Arr2 Int)),(⟨(w64 (1000000000000+(w64 (333333 * rv3655.1)))),(w64 (1000000000000+(w64 (333333 * rv3665.1))))⟩:(Arr2 Int)),(⟨0,9007199254740992⟩:(Arr2 Int))]:List (Arr2 Int)).length:Int)))=true then
 (ix ([(⟨from13,to14⟩:(Arr2 Int)),(⟨1000000000000,1000015000000⟩:(Arr2 Int)),(⟨(w64 (1000000000000+(w64 (333333 * rv3655.1)))),(w64 (1000000000000+(w64 (333333 * rv3665.1))))⟩:(Arr2 Int)),(⟨0,9007199254740992⟩:(Arr2 Int))]:List (Arr2 Int)) sv3900).bind fun x4202=>
 (Y9 x3643 x4202.e0 x4202.e1).bind fun rv4211=>
 (a7S x3643 x4202.e0 x4202.e1).bind fun rv4222=>
 (P6 x3643 x4202.e0 x4202.e1).bind fun rv4233=>
 (a4o x3643 x4202.e0 x4202.e1).bind fun rv4244=>
 (if (rv4211.2 != rv4222.2)=true then
 some true
 else
 (a4K rv4211.1 rv4222.1).bind fun rv4255=>
 some (!rv4255)).bind fun c4256=>
 (if (c4256 || (rv4233.2 != rv4244.2))=true then
 some true
 else
 (a1P rv4233.1 rv4244.1).bind fun rv4258=>
 some (!rv4258)).bind fun c4259=>
 (if c4259=true then
 some true
 else
 (U9 x3643 x4202.e0).bind fun rv4261=>
 (a3V x3643 x4202.e0).bind fun rv4263=>
 some (rv4261 != rv4263)).bind fun c4264=>
 (if c4264=true then
 some true
 else
 (U9 x3643 x4202.e1).bind fun rv4266=>
 (a3V x3643 x4202.e1).bind fun rv4268=>
 some (rv4266 != rv4268)).bind fun c4269=>
 (if c4269=true then
 some (Sum.inr (Sum.inr false))
 else
 some (Sum.inl (w64 (sv3900+1))))
 else
 Option.map Sum.inr ((F8 rv3665.2 ([1,250000,1000000,1000001]:List Int)).bind fun rv4381=>
 l9 (U3 tolerance15 sv1909 x3643 rv4381) (0)))
def U5 (sv5843:((List Int) × Int × Int)) (x7157:(List Segment)) (rv7179:(Int × Dice)) (sv7744:Int):Option (Int ⊕ (((List Int) × Int × Int) ⊕ Bool)):=
 (if (decide (sv7744<(x7157.length:Int)))=true then
 (ix x7157 sv7744).bind fun x7922=>
 (a0g x7922).bind fun rv7939=>
 (a2v x7922).bind fun rv7947=>
 (if ((!((rv7939.1.From == rv7947.1.From) && ((rv7939.1.To == rv7947.1.To) && true))) || (rv7939.2 != rv7947.2))=true then
 some true
 else
 (L6 x7922).bind fun rv7955=>
 (V4 x7922).bind fun rv7957=>
 some (!(rv7955 == rv7957))).bind fun c7958=>
 (if c7958=true then
 some (Sum.inr (Sum.inr false))
 else
 some (Sum.inl (w64 (sv7744+1))))
 else
 Option.map Sum.inr (some (Sum.inl (rv7179.2.L,rv7179.2.At,(w64 (sv5843.2.2+1))))))
def U4 (from13:Int) (to14:Int) (sv5843:((List Int) × Int × Int)) (x7157:(List Segment)) (rv7169:(Int × Dice)) (rv7179:(Int × Dice)) (sv7348:Int):Option (Int ⊕ (((List Int) × Int × Int) ⊕ Bool)):=
 (if (decide (sv7348<(([(⟨from13,to14⟩:(Arr2 Int)),(⟨(w64 (1000000000000+(w64 (333333 * rv7169.1)))),(w64 (1000000000000+(w64 (333333 * rv7179.1))))⟩:(Arr2 Int))]:List (Arr2 Int)).length:Int)))=true then
 (ix ([(⟨from13,to14⟩:(Arr2 Int)),(⟨(w64 (1000000000000+(w64 (333333 * rv7169.1)))),(w64 (1000000000000+(w64 (333333 * rv7179.1))))⟩:(Arr2 Int))]:List (Arr2 Int)) sv7348).bind fun x7562=>
 (a2p x7157 x7562.e0 x7562.e1).bind fun rv7571=>
 (a3i x7157 x7562.e0 x7562.e1).bind fun rv7582=>
 ((if (rv7571.2 != rv7582.2)=true then
 some true
 else
 (a0o rv7571.1 rv7582.1).bind fun rv7603=>
 some (!rv7603))).bind fun c7600=>
 (if c7600=true then
 some (Sum.inr (Sum.inr false))
 else
 some (Sum.inl (w64 (sv7348+1))))
 else
 Option.map Sum.inr (l9 (U5 sv5843 x7157 rv7179) (0)))
def O8 (segments9:(List Segment)) (from13:Int) (to14:Int) (rv4813:((List Segment) × Int)) (rv4824:(Segment × Dice)) (rv4838:(Segment × Dice)) (sv5843:((List Int) × Int × Int)):Option (((List Int) × Int × Int) ⊕ Bool):=
 (if (decide (sv5843.2.2<(([rv4813.1,segments9,([rv4824.1,rv4838.1]:List Segment)]:List (List Segment)).length:Int)))=true then
 (ix ([rv4813.1,segments9,([rv4824.1,rv4838.1]:List Segment)]:List (List Segment)) sv5843.2.2).bind fun x7157=>
 (y9 (⟨sv5843.1,sv5843.2.1⟩:Dice) 20).bind fun rv7169=>
 (y9 rv7169.2 40).bind fun rv7179=>
 l9 (U4 from13 to14 sv5843 x7157 rv7169 rv7179) (0)
 else
 Option.map Sum.inr ((a3R).bind fun rv7986=>
 some rv7986))
def O7 (raw5:(List Record)) (segments9:(List Segment)) (from13:Int) (to14:Int) (tolerance15:Int) (rv527:((List Record) × Dice)) (odd605:(List Record)) (sv1909:((List Int) × Int × Int)):Option (((List Int) × Int × Int) ⊕ Bool):=
 (if (decide (sv1909.2.2<(([rv527.1,odd605,raw5]:List (List Record)).length:Int)))=true then
 (ix ([rv527.1,odd605,raw5]:List (List Record)) sv1909.2.2).bind fun x3643=>
 (y9 (⟨sv1909.1,sv1909.2.1⟩:Dice) 20).bind fun rv3655=>
 (y9 rv3655.2 40).bind fun rv3665=>
 l9 (U2 from13 to14 tolerance15 sv1909 x3643 rv3655 rv3665) (0)
 else
 Option.map Sum.inr ((a1k rv527.1 250000).bind fun rv4813=>
 (Y4 (⟨sv1909.1,sv1909.2.1⟩:Dice) 9).bind fun rv4824=>
 (Y4 rv4824.2 9).bind fun rv4838=>
 l9 (O8 segments9 from13 to14 rv4813 rv4824 rv4838) (rv4838.2.L,rv4838.2.At,0)))
def Q0 (raw5:(List Record)) (segments9:(List Segment)) (from13:Int) (to14:Int) (tolerance15:Int) (rv527:((List Record) × Dice)) (x603:(List Int)) (x604:Int) (odd605:(List Record)):Option Bool:=
 l9 (O7 raw5 segments9 from13 to14 tolerance15 rv527 odd605) (x603,x604,0)
def V9 (t1:(List Int)) (raw5:(List Record)) (segments9:(List Segment)) (from13:Int) (to14:Int) (tolerance15:Int) (sv364:Int):Option (Int ⊕ Bool):=
 (if (decide (sv364<(segments9.length:Int)))=true then
 (ix segments9 sv364).bind fun x482=>
 (if (decide (60<(x482.Samples.length:Int)))=true then
 (a3R).bind fun rv508=>
 some (Sum.inr rv508)
 else
 some (Sum.inl (w64 (sv364+1))))
 else
 Option.map Sum.inr ((b0B t1).bind fun rv516=>
 (a2r rv516 5).bind fun rv527=>
 (U8 144 ([]:List Record) rv527.1).bind fun l541=>
 (some (l541.length:Int)).bind fun n546=>
 (if (decide (0<n546))=true then
 (ix l541 (w64 (n546 - 1))).bind fun x7999=>
 (a1c rv527.2 x7999).bind fun rv8015=>
 (ix l541 (w64 (n546 - 1))).bind fun x8030=>
 (a3X l541 (w64 (n546 - 1)) rv8015.1).bind fun l8042=>
 Q0 raw5 segments9 from13 to14 tolerance15 rv527 rv8015.2.L rv8015.2.At l8042
 else
 Q0 raw5 segments9 from13 to14 tolerance15 rv527 rv527.2.L rv527.2.At l541)))
def V8 (t1:(List Int)) (raw5:(List Record)) (segments9:(List Segment)) (from13:Int) (to14:Int) (tolerance15:Int) (sv127:Int):Option (Int ⊕ Bool):=
 (if (decide (sv127<(raw5.length:Int)))=true then
 (ix raw5 sv127).bind fun x245=>
 (if (decide (20<(x245.Samples.length:Int)))=true then
 (a3R).bind fun rv271=>
 some (Sum.inr rv271)
 else
 some (Sum.inl (w64 (sv127+1))))
 else
 Option.map Sum.inr (l9 (V9 t1 raw5 segments9 from13 to14 tolerance15) (0)))
def a2h (t1:(List Int)) (raw5:(List Record)) (segments9:(List Segment)) (from13:Int) (to14:Int) (tolerance15:Int):Option Bool:=
 (a7J t1).bind fun rv17=>
 (if (((!rv17) || (decide (6<(raw5.length:Int)))) || (decide (6<(segments9.length:Int))))=true then
 (a3R).bind fun rv35=>
 some rv35
 else
 l9 (V8 t1 raw5 segments9 from13 to14 tolerance15) (0))
end
end Go.Proofs.YtdcafiefjakfeaaGreat.Sh

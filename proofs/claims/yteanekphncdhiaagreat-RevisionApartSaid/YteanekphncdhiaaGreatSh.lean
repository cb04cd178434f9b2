/- Each Go function as a plain program over lists and numbers (none: a panic, or no end). Printed by a program of ours out of the translation. -/
import Derived.Test.YteanekphncdhiaaGreatShData
import Derived.Test.YteanekphncdhiaaGreatLb1
namespace Go.Proofs.YteanekphncdhiaaGreat.Sh
open Go
noncomputable section
set_option linter.unusedVariables false
def a5Z (l1:(List Int)):Option Bool:=
 some (decide ((l1.length:Int)≤500))
def a4s (c1:Int):Option Bool:=
 some (((decide (65≤c1)) && (decide (c1≤90))) || ((decide (48≤c1)) && (decide (c1≤57))))
def a3H (s1:ByteArray) (low2:Int) (high3:Int) (sv45:Int):Option (Int ⊕ Bool):=
 (if (decide (sv45<(s1.size:Int)))=true then
 (a5h s1 sv45).bind fun c102=>
 (a4s c102).bind fun rv104=>
 (if (!rv104)=true then
 some (Sum.inr false)
 else
 some (Sum.inl (w64 (sv45+1))))
 else
 Option.map Sum.inr (some ((decide (low2≤(s1.size:Int))) && (decide ((s1.size:Int)≤high3)))))
def a2g (s1:ByteArray) (low2:Int) (high3:Int):Option Bool:=
 l9 (a3H s1 low2 high3) (0)
def a3F (s1:SourceID):Option Bool:=
 (a2g s1.Network 1 2).bind fun rv4=>
 ((if rv4=true then
 (a2g s1.Station 1 5).bind fun rv23=>
 some rv23
 else
 some false)).bind fun c20=>
 ((if c20=true then
 (a2g s1.Location 0 2).bind fun rv42=>
 some rv42
 else
 some false)).bind fun c39=>
 ((if (c39 && ((s1.Location.size:Int) != 1))=true then
 (a2g s1.Channel 3 3).bind fun rv62=>
 some rv62
 else
 some false)).bind fun c59=>
 some c59
def a9I (n1:Int) (low2:Int) (high3:Int):Option Bool:=
 some ((decide (low2≤n1)) && (decide (n1≤high3)))
def a9t (sv3:(Int × Int)):Option ((Int × Int) ⊕ Int):=
 (if (sv3.2 != 0)=true then
 (remM sv3.1 sv3.2).bind fun rem29=>
 some (Sum.inl (sv3.2,rem29))
 else
 some (Sum.inr sv3.1))
def a8v (a1:Int) (b2:Int):Option Int:=
 (l9 (a9t) (a1,b2)).bind fun e21=>
 some e21
def a6b (r1:Rate):Option Bool:=
 (a9I r1.Num 1 4096).bind fun rv4=>
 ((if rv4=true then
 (a9I r1.Den 1 4096).bind fun rv23=>
 some rv23
 else
 some false)).bind fun c20=>
 ((if c20=true then
 (a8v r1.Num r1.Den).bind fun rv42=>
 some (rv42 == 1)
 else
 some false)).bind fun c39=>
 some c39
def C7 (s1:(List Stage)) (f5:Stage→Option Bool) (sv90:Int):Option (Int ⊕ Int):=
 (if (decide (sv90<(s1.length:Int)))=true then
 (ix s1 sv90).bind fun x200=>
 (f5 x200).bind fun rv216=>
 (if rv216=true then
 some (Sum.inr sv90)
 else
 some (Sum.inl (w64 (sv90+1))))
 else
 Option.map Sum.inr (some (-1)))
def K7 (s1:(List Stage)) (f5:Stage→Option Bool):Option Int:=
 l9 (C7 s1 f5) (0)
def y9 (s1:(List Stage)) (f5:Stage→Option Bool):Option Bool:=
 (K7 s1 f5).bind fun rv11=>
 some (decide (0≤rv11))
def Y7 (n1:Int) (low2:Int) (high3:Int):Option Bool:=
 some ((decide (low2≤n1)) && (decide (n1≤high3)))
def X3 (s1:(List Int)) (f5:Int→Option Bool) (sv78:Int):Option (Int ⊕ Int):=
 (if (decide (sv78<(s1.length:Int)))=true then
 (ix s1 sv78).bind fun x172=>
 (f5 x172).bind fun rv184=>
 (if rv184=true then
 some (Sum.inr sv78)
 else
 some (Sum.inl (w64 (sv78+1))))
 else
 Option.map Sum.inr (some (-1)))
def U0 (s1:(List Int)) (f5:Int→Option Bool):Option Int:=
 l9 (X3 s1 f5) (0)
def P6 (s1:(List Int)) (f5:Int→Option Bool):Option Bool:=
 (U0 s1 f5).bind fun rv11=>
 some (decide (0≤rv11))
def a0e (n1:Int):Option Bool:=
 (Y7 n1 (-1048576) 1048576).bind fun rv3=>
 some (!rv3)
def V3 (l1:(List Int)):Option Bool:=
 (P6 l1 a0e).bind fun rv6=>
 some (!rv6)
def a0o (l1:(List Int)) (sv5:(Int × Int)):Option ((Int × Int) ⊕ Int):=
 (if (decide (sv5.2<(l1.length:Int)))=true then
 (ix l1 sv5.2).bind fun x80=>
 (some (w64 (sv5.1+x80))).bind fun n92=>
 some (Sum.inl (n92,(w64 (sv5.2+1))))
 else
 some (Sum.inr sv5.1))
def a1k (l1:(List Int)):Option Int:=
 (l9 (a0o l1) (0,0)).bind fun e59=>
 some e59
def O1 (s1:Stage):Option Bool:=
 (if (s1.Kind == 0)=true then
 ((if ((((((s1.Taps.length:Int) == 0) && (s1.Factor == 0)) && (s1.Shift == 0)) && ((s1.Num.e0 == s1.Num.e0) && ((s1.Num.e1 == 0) && ((s1.Num.e2 == 0) && true)))) && ((s1.Den.e0 == s1.Den.e0) && ((s1.Den.e1 == 0) && ((s1.Den.e2 == 0) && true))))=true then
 (Y7 s1.Num.e0 1 1048576).bind fun rv393=>
 some rv393
 else
 some false)).bind fun c390=>
 ((if c390=true then
 (Y7 s1.Den.e0 1 1048576).bind fun rv412=>
 some rv412
 else
 some false)).bind fun c409=>
 some c409
 else
 (if (s1.Kind == 1)=true then
 ((if ((((s1.Taps.length:Int) == 0) && (s1.Factor == 0)) && (s1.Shift == 0))=true then
 (V3 ([s1.Num.e0,s1.Num.e1,s1.Num.e2]:List Int)).bind fun rv578=>
 some rv578
 else
 some false)).bind fun c574=>
 ((if c574=true then
 (V3 ([s1.Den.e0,s1.Den.e1,s1.Den.e2]:List Int)).bind fun rv598=>
 some rv598
 else
 some false)).bind fun c595=>
 some (c595 && (s1.Den.e0 != 0))
 else
 (if (s1.Kind == 2)=true then
 ((if (((s1.Num.e0 == 0) && ((s1.Num.e1 == 0) && ((s1.Num.e2 == 0) && true))) && ((s1.Den.e0 == 0) && ((s1.Den.e1 == 0) && ((s1.Den.e2 == 0) && true))))=true then
 (Y7 (s1.Taps.length:Int) 1 128).bind fun rv719=>
 some rv719
 else
 some false)).bind fun c716=>
 ((if c716=true then
 (V3 s1.Taps).bind fun rv738=>
 some rv738
 else
 some false)).bind fun c735=>
 ((if c735=true then
 (a1k s1.Taps).bind fun rv757=>
 some (rv757 != 0)
 else
 some false)).bind fun c754=>
 ((if c754=true then
 (Y7 s1.Factor 1 64).bind fun rv776=>
 some rv776
 else
 some false)).bind fun c773=>
 ((if c773=true then
 (Y7 s1.Shift 0 40).bind fun rv795=>
 some rv795
 else
 some false)).bind fun c792=>
 some c792
 else
 some false)))
def O6 (s1:Stage):Option Bool:=
 (O1 s1).bind fun rv7=>
 some (!rv7)
def a0c (sv85:(Int × Int)) (n192:Int):Option ((Int × Int) ⊕ Int):=
 some (Sum.inl (n192,(w64 (sv85.2+1))))
def a0d (l1:(List Stage)) (sv85:(Int × Int)):Option ((Int × Int) ⊕ Int):=
 (if (decide (sv85.2<(l1.length:Int)))=true then
 (ix l1 sv85.2).bind fun x195=>
 (if (x195.Kind != 2)=true then
 a0c sv85 sv85.1
 else
 (some (w64 (sv85.1 * x195.Factor))).bind fun n214=>
 (if (decide (64<n214))=true then
 some (Sum.inr 0)
 else
 a0c sv85 n214))
 else
 Option.map Sum.inr (some sv85.1))
def a2O (l1:(List Stage)):Option Int:=
 l9 (a0d l1) (1,0)
def U9 (r1:Response):Option Bool:=
 ((if (decide (8<(r1.Stages.length:Int)))=true then
 some true
 else
 (y9 r1.Stages O6).bind fun rv18=>
 some rv18)).bind fun c15=>
 (if c15=true then
 some false
 else
 (a2O r1.Stages).bind fun rv28=>
 some (decide (0<rv28)))
def a2k (n1:Int) (low2:Int) (high3:Int):Option Bool:=
 some ((decide (low2≤n1)) && (decide (n1≤high3)))
def Q3 (e1:Epoch):Option Bool:=
 ((if (((decide (0≤e1.From)) && (decide (e1.From<e1.To))) && (decide (e1.To≤9007199254740992)))=true then
 (a6b e1.Rate).bind fun rv21=>
 some rv21
 else
 some false)).bind fun c18=>
 ((if c18=true then
 (U9 e1.Response).bind fun rv40=>
 some rv40
 else
 some false)).bind fun c37=>
 ((if c37=true then
 (a2k e1.Position.X (-1048576) 1048576).bind fun rv59=>
 some rv59
 else
 some false)).bind fun c56=>
 ((if c56=true then
 (a2k e1.Position.Y (-1048576) 1048576).bind fun rv78=>
 some rv78
 else
 some false)).bind fun c75=>
 ((if c75=true then
 (a2k e1.Position.Z (-16384) 1048576).bind fun rv97=>
 some rv97
 else
 some false)).bind fun c94=>
 some c94
def a0K (l1:(List Epoch)) (sv121:Int):Option (Int ⊕ Bool):=
 (if (decide (sv121<(l1.length:Int)))=true then
 (ix l1 sv121).bind fun x279=>
 (Q3 x279).bind fun rv296=>
 (if (!rv296)=true then
 some true
 else
 (if (decide (0<sv121))=true then
 (ix l1 (w64 (sv121 - 1))).bind fun x299=>
 some (decide (x279.From<x299.To))
 else
 some false).bind fun c309=>
 some c309).bind fun c310=>
 (if c310=true then
 some (Sum.inr false)
 else
 some (Sum.inl (w64 (sv121+1))))
 else
 Option.map Sum.inr ((a2k (l1.length:Int) 1 32).bind fun rv365=>
 some rv365))
def a3Q (l1:(List Epoch)):Option Bool:=
 l9 (a0K l1) (0)
def cmp_isNaN_string (x1:ByteArray):Option Bool:=
 some (!(x1.toList == x1.toList))
def P7 (x1:ByteArray) (y2:ByteArray):Option Int:=
 (cmp_isNaN_string x1).bind fun rv4=>
 (cmp_isNaN_string y2).bind fun rv12=>
 (if rv4=true then
 (if rv12=true then
 some 0
 else
 some (-1))
 else
 (if rv12=true then
 some 1
 else
 (if (Op.bytesLess x1.toList y2.toList)=true then
 some (-1)
 else
 (if (!((Op.bytesLess x1.toList y2.toList) || (x1.toList == y2.toList)))=true then
 some 1
 else
 some 0))))
def a3S (vals1:(List Int)) (sv55:Int):Option (Int ⊕ Int):=
 (if (decide (sv55<(vals1.length:Int)))=true then
 (ix vals1 sv55).bind fun x125=>
 (if (x125 != 0)=true then
 some (Sum.inr x125)
 else
 some (Sum.inl (w64 (sv55+1))))
 else
 Option.map Sum.inr (some 0))
def a5R (vals1:(List Int)):Option Int:=
 l9 (a3S vals1) (0)
def V4 (a1:SourceID) (b2:SourceID):Option Int:=
 (P7 a1.Network b2.Network).bind fun rv6=>
 (P7 a1.Station b2.Station).bind fun rv8=>
 (P7 a1.Location b2.Location).bind fun rv10=>
 (P7 a1.Channel b2.Channel).bind fun rv12=>
 (a5R ([rv6,rv8,rv10,rv12]:List Int)).bind fun rv16=>
 some rv16
def a1f (inv1:Inventory) (sv137:Int):Option (Int ⊕ Bool):=
 (if (decide (sv137<(inv1.Channels.length:Int)))=true then
 (ix inv1.Channels sv137).bind fun x315=>
 (a3F x315.Source).bind fun rv332=>
 (if (!rv332)=true then
 some true
 else
 (a3Q x315.Epochs).bind fun rv334=>
 some (!rv334)).bind fun c335=>
 (if c335=true then
 some true
 else
 (if (decide (0<sv137))=true then
 (ix inv1.Channels (w64 (sv137 - 1))).bind fun x338=>
 (V4 x338.Source x315.Source).bind fun rv349=>
 some (decide (0≤rv349))
 else
 some false).bind fun c350=>
 some c350).bind fun c351=>
 (if c351=true then
 some (Sum.inr false)
 else
 some (Sum.inl (w64 (sv137+1))))
 else
 Option.map Sum.inr (some (decide ((inv1.Channels.length:Int)≤128))))
def a0m (inv1:Inventory):Option Bool:=
 l9 (a1f inv1) (0)
def z8 (s1_1:(List Stage)) (s2_5:(List Stage)) (eq9:Stage→Stage→Option Bool) (sv153:Int):Option (Int ⊕ Bool):=
 (if (decide (sv153<(s1_1.length:Int)))=true then
 (ix s1_1 sv153).bind fun x339=>
 (ix s2_5 sv153).bind fun x357=>
 (eq9 x339 x357).bind fun rv374=>
 (if (!rv374)=true then
 some (Sum.inr false)
 else
 some (Sum.inl (w64 (sv153+1))))
 else
 Option.map Sum.inr (some true))
def G5 (s1_1:(List Stage)) (s2_5:(List Stage)) (eq9:Stage→Stage→Option Bool):Option Bool:=
 (if ((s1_1.length:Int) != (s2_5.length:Int))=true then
 some false
 else
 l9 (z8 s1_1 s2_5 eq9) (0))
def a0C (s1_1:(List Int)) (s2_5:(List Int)) (sv103:Int):Option (Int ⊕ Bool):=
 (if (decide (sv103<(s1_1.length:Int)))=true then
 (ix s1_1 sv103).bind fun x229=>
 (ix s2_5 sv103).bind fun x242=>
 (if (x229 != x242)=true then
 some (Sum.inr false)
 else
 some (Sum.inl (w64 (sv103+1))))
 else
 Option.map Sum.inr (some true))
def a0j (s1_1:(List Int)) (s2_5:(List Int)):Option Bool:=
 (if ((s1_1.length:Int) != (s2_5.length:Int))=true then
 some false
 else
 l9 (a0C s1_1 s2_5) (0))
def V6 (x1:Stage) (y5:Stage):Option Bool:=
 ((if (((x1.Kind == y5.Kind) && ((x1.Num.e0 == y5.Num.e0) && ((x1.Num.e1 == y5.Num.e1) && ((x1.Num.e2 == y5.Num.e2) && true)))) && ((x1.Den.e0 == y5.Den.e0) && ((x1.Den.e1 == y5.Den.e1) && ((x1.Den.e2 == y5.Den.e2) && true))))=true then
 (a0j x1.Taps y5.Taps).bind fun rv25=>
 some rv25
 else
 some false)).bind fun c22=>
 some ((c22 && (x1.Factor == y5.Factor)) && (x1.Shift == y5.Shift))
def a2D (a1:Response) (b5:Response):Option Bool:=
 (G5 a1.Stages b5.Stages V6).bind fun rv12=>
 some rv12
def X6 (a1:Epoch) (b5:Epoch):Option Bool:=
 ((if ((((a1.From == b5.From) && (a1.To == b5.To)) && ((a1.Rate.Num == b5.Rate.Num) && ((a1.Rate.Den == b5.Rate.Den) && true))) && ((a1.Position.X == b5.Position.X) && ((a1.Position.Y == b5.Position.Y) && ((a1.Position.Z == b5.Position.Z) && true))))=true then
 (a2D a1.Response b5.Response).bind fun rv26=>
 some rv26
 else
 some false)).bind fun c23=>
 some c23
def a4g (e1:Epoch):Option Bool:=
 (X6 e1 (⟨0,0,(⟨0,0⟩:Rate),(⟨0,0,0⟩:Position),(⟨([]:List Stage)⟩:Response)⟩:Epoch)).bind fun rv7=>
 some rv7
def a3A (inv1:Inventory) (c5:Change):Option Bool:=
 (a0m inv1).bind fun rv12=>
 ((if (!rv12)=true then
 some true
 else
 (a3F c5.Source).bind fun rv31=>
 some (!rv31))).bind fun c28=>
 (if c28=true then
 some false
 else
 (if (c5.Kind == 0)=true then
 (Q3 c5.Epoch).bind fun rv98=>
 some (rv98 && (c5.From == c5.Epoch.From))
 else
 (if (c5.Kind == 1)=true then
 (a4g c5.Epoch).bind fun rv126=>
 some rv126
 else
 (if (c5.Kind == 2)=true then
 (Q3 c5.Epoch).bind fun rv144=>
 some rv144
 else
 some false))))
def K5 (s1:(List Channel)):Option (List Channel):=
 (R5 88 ([]:List Channel) s1).bind fun l11=>
 some l11
def N7 (s1:(List Epoch)):Option (List Epoch):=
 (R5 80 ([]:List Epoch) s1).bind fun l11=>
 some l11
def N8 (s1:(List Stage)):Option (List Stage):=
 (R5 96 ([]:List Stage) s1).bind fun l11=>
 some l11
def a0i (s1:(List Int)):Option (List Int):=
 (R5 8 ([]:List Int) s1).bind fun l11=>
 some l11
def Y3 (rv8:(List Stage)) (sv19:((List Stage) × Int)):Option (((List Stage) × Int) ⊕ (List Stage)):=
 (if (decide (sv19.2<(rv8.length:Int)))=true then
 (ix sv19.1 sv19.2).bind fun x207=>
 (a0i x207.Taps).bind fun rv223=>
 (ix sv19.1 sv19.2).bind fun x230=>
 (a3C sv19.1 sv19.2 (⟨x230.Kind,x230.Num,x230.Den,rv223,x230.Factor,x230.Shift⟩:Stage)).bind fun l242=>
 some (Sum.inl (l242,(w64 (sv19.2+1))))
 else
 some (Sum.inr sv19.1))
def X5 (e1:Epoch):Option Epoch:=
 (N8 e1.Response.Stages).bind fun rv8=>
 (l9 (Y3 rv8) (rv8,0)).bind fun e157=>
 some (⟨e1.From,e1.To,e1.Rate,e1.Position,(⟨e157⟩:Response)⟩:Epoch)
def a0J (rv8:(List Epoch)) (sv19:((List Epoch) × Int)):Option (((List Epoch) × Int) ⊕ (List Epoch)):=
 (if (decide (sv19.2<(rv8.length:Int)))=true then
 (ix sv19.1 sv19.2).bind fun x211=>
 (X5 x211).bind fun rv228=>
 (ix sv19.1 sv19.2).bind fun x235=>
 (a3C sv19.1 sv19.2 rv228).bind fun l247=>
 some (Sum.inl (l247,(w64 (sv19.2+1))))
 else
 some (Sum.inr sv19.1))
def a0R (c1:Channel):Option Channel:=
 (N7 c1.Epochs).bind fun rv8=>
 (l9 (a0J rv8) (rv8,0)).bind fun e160=>
 some (⟨c1.Source,e160⟩:Channel)
def a1L (rv8:(List Channel)) (sv19:((List Channel) × Int)):Option (((List Channel) × Int) ⊕ (List Channel)):=
 (if (decide (sv19.2<(rv8.length:Int)))=true then
 (ix sv19.1 sv19.2).bind fun x211=>
 (a0R x211).bind fun rv228=>
 (ix sv19.1 sv19.2).bind fun x235=>
 (a3C sv19.1 sv19.2 rv228).bind fun l247=>
 some (Sum.inl (l247,(w64 (sv19.2+1))))
 else
 some (Sum.inr sv19.1))
def a1Y (inv1:Inventory):Option Inventory:=
 (K5 inv1.Channels).bind fun rv8=>
 (l9 (a1L rv8) (rv8,0)).bind fun e160=>
 some (⟨e160⟩:Inventory)
def E5 (i179:Int) (j180:Int):Option ((Int × Int) ⊕ Int):=
 some (Sum.inl (i179,j180))
def E8 (x1:(List Channel)) (target5:SourceID) (cmp6:Channel→SourceID→Option Int) (sv14:(Int × Int)):Option ((Int × Int) ⊕ Int):=
 (if (decide (sv14.1<sv14.2))=true then
 (shrM .u64 (IntKind.u64.wrap (w64 (sv14.1+sv14.2))) 1).bind fun shr148=>
 (some (w64 shr148)).bind fun h150=>
 (ix x1 h150).bind fun x153=>
 (cmp6 x153 target5).bind fun rv169=>
 (if (decide (rv169<0))=true then
 (some (w64 (h150+1))).bind fun i183=>
 E5 i183 sv14.2
 else
 E5 sv14.1 h150)
 else
 some (Sum.inr sv14.1))
def F5 (x1:(List Channel)) (target5:SourceID) (cmp6:Channel→SourceID→Option Int):Option (Int × Bool):=
 (some (x1.length:Int)).bind fun n13=>
 (l9 (E8 x1 target5 cmp6) (0,n13)).bind fun e113=>
 (if (decide (e113<n13))=true then
 (ix x1 e113).bind fun x187=>
 (cmp6 x187 target5).bind fun rv203=>
 some (rv203 == 0)
 else
 some false).bind fun c204=>
 some (e113,c204)
def U6 (c1:Channel) (s5:SourceID):Option Int:=
 (V4 c1.Source s5).bind fun rv9=>
 some rv9
def a3B (inv1:Inventory) (s5:SourceID):Option (Int × Bool):=
 (F5 inv1.Channels s5 U6).bind fun rv9=>
 some (rv9.1,rv9.2)
def O4 (s1:(List Epoch)) (f5:Epoch→Option Bool) (sv90:Int):Option (Int ⊕ Int):=
 (if (decide (sv90<(s1.length:Int)))=true then
 (ix s1 sv90).bind fun x200=>
 (f5 x200).bind fun rv216=>
 (if rv216=true then
 some (Sum.inr sv90)
 else
 some (Sum.inl (w64 (sv90+1))))
 else
 Option.map Sum.inr (some (-1)))
def H5 (s1:(List Epoch)) (f5:Epoch→Option Bool):Option Int:=
 l9 (O4 s1 f5) (0)
def a2q (e1:Epoch) (x5:Int):Option Bool:=
 some (e1.From == x5)
def a6j (l1:(List Epoch)) (from5:Int):Option Int:=
 (H5 l1 (fun y0=>a2q y0 from5)).bind fun rv8=>
 some rv8
def P9 (s1:(List Epoch)) (i6:Int) (j7:Int):Option (List Epoch):=
 (D6 s1 i6 j7).bind fun l12=>
 (if (i6 == j7)=true then
 some s1
 else
 (some (s1.length:Int)).bind fun oldlen16=>
 (D6 s1 0 i6).bind fun l19=>
 (D6 s1 j7 (s1.length:Int)).bind fun l22=>
 (some (l19 ++ l22 ++ s1.drop (l19 ++ l22).length)).bind fun l27=>
 (D6 l27 ((l19 ++ l22).length:Int) oldlen16).bind fun l31=>
 (some (H8 l27 ((l19 ++ l22).length:Int) oldlen16 (List.replicate l31.length ((⟨0,0,(⟨0,0⟩:Rate),(⟨0,0,0⟩:Position),(⟨([]:List Stage)⟩:Response)⟩:Epoch):Epoch)))).bind fun l34=>
 (D6 l34 0 ((l19 ++ l22).length:Int)).bind fun l39=>
 some l39)
def I4 (s1:(List Epoch)) (f5:Epoch→Option Bool):Option Bool:=
 (H5 s1 f5).bind fun rv11=>
 some (decide (0≤rv11))
def a1R (x1:Epoch) (x5:Epoch):Option Bool:=
 some (decide ((max x1.From x5.From)<(min x1.To x5.To)))
def L6 (x1:(List Epoch)) (cmp6:Epoch→Epoch→Option Int):Option (List Epoch):=
 b2J x1 cmp6
def V8 (a1:Epoch) (b5:Epoch):Option Int:=
 (some (w64 (a1.From - b5.From))).bind fun x12=>
 some x12
def a4f (l1:(List Epoch)) (e6:Epoch):Option ((List Epoch) × Bool):=
 (I4 l1 (fun y0=>a1R y0 e6)).bind fun rv12=>
 (if rv12=true then
 some (([]:List Epoch),false)
 else
 (X5 e6).bind fun rv22=>
 (R5 80 l1 ([rv22]:List Epoch)).bind fun l37=>
 (L6 l37 V8).bind fun rv42=>
 some (rv42,true))
def J7 (s1:(List Channel)) (i6:Int) (j7:Int):Option (List Channel):=
 (D6 s1 i6 j7).bind fun l12=>
 (if (i6 == j7)=true then
 some s1
 else
 (some (s1.length:Int)).bind fun oldlen16=>
 (D6 s1 0 i6).bind fun l19=>
 (D6 s1 j7 (s1.length:Int)).bind fun l22=>
 (some (l19 ++ l22 ++ s1.drop (l19 ++ l22).length)).bind fun l27=>
 (D6 l27 ((l19 ++ l22).length:Int) oldlen16).bind fun l31=>
 (some (H8 l27 ((l19 ++ l22).length:Int) oldlen16 (List.replicate l31.length ((⟨(⟨ByteArray.empty,ByteArray.empty,ByteArray.empty,ByteArray.empty⟩:SourceID),([]:List Epoch)⟩:Channel):Channel)))).bind fun l34=>
 (D6 l34 0 ((l19 ++ l22).length:Int)).bind fun l39=>
 some l39)
def J9 (s1:(List Channel)) (i6:Int) (v7:(List Channel)):Option ((List Channel) × (List Channel)):=
 (D6 s1 i6 (s1.length:Int)).bind fun l16=>
 (some (v7.length:Int)).bind fun m18=>
 (if (m18 == 0)=true then
 some (s1,v7)
 else
 (some (s1.length:Int)).bind fun n22=>
 (if (i6 == n22)=true then
 (R5 88 s1 v7).bind fun l31=>
 some (l31,v7)
 else
 (D6 s1 0 i6).bind fun l74=>
 (appZ 88 ((⟨(⟨ByteArray.empty,ByteArray.empty,ByteArray.empty,ByteArray.empty⟩:SourceID),([]:List Epoch)⟩:Channel):Channel) l74 (w64 ((w64 (n22+m18)) - i6))).bind fun l76=>
 (D6 l76 i6 (l76.length:Int)).bind fun l84=>
 (some (H8 l76 i6 (l76.length:Int) v7)).bind fun l85=>
 (D6 l85 (w64 (i6+m18)) (l85.length:Int)).bind fun l96=>
 (D6 s1 i6 (s1.length:Int)).bind fun l101=>
 (some (H8 l85 (w64 (i6+m18)) (l85.length:Int) l101)).bind fun l102=>
 some (l102,v7)))
def a0w (l113:(List Epoch)) (x237:(List Channel)):Option (Inventory × Int):=
 (if ((decide (128<(x237.length:Int))) || (decide (32<(l113.length:Int))))=true then
 some ((⟨([]:List Channel)⟩:Inventory),8)
 else
 some ((⟨x237⟩:Inventory),0))
def a0x (l113:(List Epoch)) (x298:(List Channel)):Option (Inventory × Int):=
 a0w l113 x298
def a0v (c5:Change) (rv23:Inventory) (rv36:(Int × Bool)) (l113:(List Epoch)):Option (Inventory × Int):=
 (if ((l113.length:Int) == 0)=true then
 (J7 rv23.Channels rv36.1 (w64 (rv36.1+1))).bind fun rv243=>
 a0w l113 rv243
 else
 (if rv36.2=true then
 (ix rv23.Channels rv36.1).bind fun x302=>
 (a3C rv23.Channels rv36.1 (⟨x302.Source,l113⟩:Channel)).bind fun l314=>
 a0x l113 l314
 else
 (J9 rv23.Channels rv36.1 ([(⟨c5.Source,l113⟩:Channel)]:List Channel)).bind fun rv322=>
 a0x l113 rv322.1))
def a0u (c5:Change) (rv23:Inventory) (rv36:(Int × Bool)) (l94:(List Epoch)):Option (Inventory × Int):=
 (if (c5.Kind != 1)=true then
 (a4f l94 c5.Epoch).bind fun rv340=>
 (if (!rv340.2)=true then
 some ((⟨([]:List Channel)⟩:Inventory),11)
 else
 a0v c5 rv23 rv36 rv340.1)
 else
 a0v c5 rv23 rv36 l94)
def O9 (c5:Change) (rv23:Inventory) (rv36:(Int × Bool)) (l67:(List Epoch)):Option (Inventory × Int):=
 (if (c5.Kind != 0)=true then
 (a6j l67 c5.From).bind fun rv355=>
 (if (decide (rv355<0))=true then
 some ((⟨([]:List Channel)⟩:Inventory),6)
 else
 (P9 l67 rv355 (w64 (rv355+1))).bind fun rv365=>
 a0u c5 rv23 rv36 rv365)
 else
 a0u c5 rv23 rv36 l67)
def H6 (inv1:Inventory) (c5:Change):Option (Inventory × Int):=
 (a3A inv1 c5).bind fun rv13=>
 (if (!rv13)=true then
 some ((⟨([]:List Channel)⟩:Inventory),1)
 else
 (a1Y inv1).bind fun rv23=>
 (a3B rv23 c5.Source).bind fun rv36=>
 (if rv36.2=true then
 (ix rv23.Channels rv36.1).bind fun x379=>
 O9 c5 rv23 rv36 x379.Epochs
 else
 O9 c5 rv23 rv36 ([]:List Epoch)))
def H9 (sv23:(List Channel)):Option (List Channel):=
 some sv23
def J8 (n1:Int):Option (List Channel):=
 (if (decide (n1<0))=true then
 none
 else
 (some (w64 (n1 - (w64 (((0:Nat):Int) - (([]:List Channel).length:Int)))))).bind fun n5=>
 (if (decide (0<n5))=true then
 (D6 ([]:List Channel) 0 ((0:Nat):Int)).bind fun l28=>
 (a9U 88 ((⟨(⟨ByteArray.empty,ByteArray.empty,ByteArray.empty,ByteArray.empty⟩:SourceID),([]:List Epoch)⟩:Channel):Channel) n5).bind fun l30=>
 (D6 l30 0 (([]:List Channel).length:Int)).bind fun l36=>
 H9 l36
 else
 H9 ([]:List Channel)))
def F6 (slices1:(List (List Channel))) (sv5:(Int × Int)):Option ((Int × Int) ⊕ Int):=
 (if (decide (sv5.2<(slices1.length:Int)))=true then
 (ix slices1 sv5.2).bind fun x100=>
 (some (w64 (sv5.1+(x100.length:Int)))).bind fun size116=>
 (if (decide (size116<0))=true then
 none
 else
 some (Sum.inl (size116,(w64 (sv5.2+1)))))
 else
 some (Sum.inr sv5.1))
def F7 (slices1:(List (List Channel))) (sv132:((List Channel) × Int)):Option (((List Channel) × Int) ⊕ (List Channel)):=
 (if (decide (sv132.2<(slices1.length:Int)))=true then
 (ix slices1 sv132.2).bind fun x244=>
 (R5 88 sv132.1 x244).bind fun l260=>
 some (Sum.inl (l260,(w64 (sv132.2+1))))
 else
 some (Sum.inr sv132.1))
def J6 (slices1:(List (List Channel))):Option (List Channel):=
 (l9 (F6 slices1) (0,0)).bind fun e74=>
 (J8 e74).bind fun rv121=>
 (l9 (F7 slices1) (rv121,0)).bind fun e213=>
 some e213
def J2 (s1:(List SourceID)):Option (List SourceID):=
 (R5 64 ([]:List SourceID) s1).bind fun l11=>
 some l11
def M8 (x1:(List SourceID)) (cmp6:SourceID→SourceID→Option Int):Option (List SourceID):=
 a6Z x1 cmp6
def L9 (sv1662:((List SourceID) × Int × Int)) (sv1912:(List SourceID)) (k1913:Int):Option (((List SourceID) × Int × Int) ⊕ ((List SourceID) × Int)):=
 (some (w64 (sv1662.2.2+1))).bind fun k2_1915=>
 some (Sum.inl (sv1912,k1913,k2_1915))
def a0F (sv628:Int) (l1661:(List SourceID)) (sv1662:((List SourceID) × Int × Int)):Option (((List SourceID) × Int × Int) ⊕ ((List SourceID) × Int)):=
 (if (decide (sv1662.2.2<(l1661.length:Int)))=true then
 (ixV sv1662.1 sv628 l1661.length sv1662.2.2).bind fun x1875=>
 (ixV sv1662.1 sv628 l1661.length (w64 (sv1662.2.2 - 1))).bind fun x1883=>
 (if (!((x1875.Network == x1883.Network) && ((x1875.Station == x1883.Station) && ((x1875.Location == x1883.Location) && ((x1875.Channel == x1883.Channel) && true)))))=true then
 (ixV sv1662.1 sv628 l1661.length sv1662.2.2).bind fun x1924=>
 (ix sv1662.1 sv1662.2.1).bind fun x1927=>
 (a3C sv1662.1 sv1662.2.1 x1924).bind fun l1935=>
 (some (w64 (sv1662.2.1+1))).bind fun k1940=>
 L9 sv1662 l1935 k1940
 else
 L9 sv1662 sv1662.1 sv1662.2.1)
 else
 some (Sum.inr (sv1662.1,sv1662.2.1)))
def a0W (s1:(List SourceID)) (sv628:Int):Option (Int ⊕ (List SourceID)):=
 (if (decide (sv628<(s1.length:Int)))=true then
 (ix s1 sv628).bind fun x1456=>
 (ix s1 (w64 (sv628 - 1))).bind fun x1469=>
 (if ((x1456.Network == x1469.Network) && ((x1456.Station == x1469.Station) && ((x1456.Location == x1469.Location) && ((x1456.Channel == x1469.Channel) && true))))=true then
 (D6 s1 sv628 (s1.length:Int)).bind fun l1661=>
 (l9 (a0F sv628 l1661) (s1,sv628,1)).bind fun e1817=>
 (D6 e1817.1 e1817.2 (e1817.1.length:Int)).bind fun l1946=>
 (some (H8 e1817.1 e1817.2 (e1817.1.length:Int) (List.replicate l1946.length ((⟨ByteArray.empty,ByteArray.empty,ByteArray.empty,ByteArray.empty⟩:SourceID):SourceID)))).bind fun l1947=>
 (D6 l1947 0 e1817.2).bind fun l1956=>
 some (Sum.inr l1956)
 else
 (some (w64 (sv628+1))).bind fun k1960=>
 some (Sum.inl k1960))
 else
 Option.map Sum.inr (some s1))
def M9 (s1:(List SourceID)):Option (List SourceID):=
 (if (decide ((s1.length:Int)<2))=true then
 some s1
 else
 l9 (a0W s1) (1))
def a5c (l1:(List SourceID)):Option (List SourceID):=
 (J2 l1).bind fun rv6=>
 (M8 rv6 V4).bind fun rv18=>
 (M9 rv18).bind fun rv31=>
 some rv31
def a3p (inv1:Inventory) (s5:SourceID) (sv110:Int):Option (Int ⊕ (Channel × Bool)):=
 (if (decide (sv110<(inv1.Channels.length:Int)))=true then
 (ix inv1.Channels sv110).bind fun x248=>
 (if ((x248.Source.Network == s5.Network) && ((x248.Source.Station == s5.Station) && ((x248.Source.Location == s5.Location) && ((x248.Source.Channel == s5.Channel) && true))))=true then
 (a0R x248).bind fun rv279=>
 some (Sum.inr (rv279,true))
 else
 some (Sum.inl (w64 (sv110+1))))
 else
 Option.map Sum.inr (some ((⟨(⟨ByteArray.empty,ByteArray.empty,ByteArray.empty,ByteArray.empty⟩:SourceID),([]:List Epoch)⟩:Channel),false)))
def a1Z (inv1:Inventory) (s5:SourceID):Option (Channel × Bool):=
 l9 (a3p inv1 s5) (0)
def K6 (sv23:(List Epoch)):Option (List Epoch):=
 some sv23
def M7 (n1:Int):Option (List Epoch):=
 (if (decide (n1<0))=true then
 none
 else
 (some (w64 (n1 - (w64 (((0:Nat):Int) - (([]:List Epoch).length:Int)))))).bind fun n5=>
 (if (decide (0<n5))=true then
 (D6 ([]:List Epoch) 0 ((0:Nat):Int)).bind fun l28=>
 (a9U 80 ((⟨0,0,(⟨0,0⟩:Rate),(⟨0,0,0⟩:Position),(⟨([]:List Stage)⟩:Response)⟩:Epoch):Epoch) n5).bind fun l30=>
 (D6 l30 0 (([]:List Epoch).length:Int)).bind fun l36=>
 K6 l36
 else
 K6 ([]:List Epoch)))
def G8 (slices1:(List (List Epoch))) (sv5:(Int × Int)):Option ((Int × Int) ⊕ Int):=
 (if (decide (sv5.2<(slices1.length:Int)))=true then
 (ix slices1 sv5.2).bind fun x100=>
 (some (w64 (sv5.1+(x100.length:Int)))).bind fun size116=>
 (if (decide (size116<0))=true then
 none
 else
 some (Sum.inl (size116,(w64 (sv5.2+1)))))
 else
 some (Sum.inr sv5.1))
def G9 (slices1:(List (List Epoch))) (sv132:((List Epoch) × Int)):Option (((List Epoch) × Int) ⊕ (List Epoch)):=
 (if (decide (sv132.2<(slices1.length:Int)))=true then
 (ix slices1 sv132.2).bind fun x244=>
 (R5 80 sv132.1 x244).bind fun l260=>
 some (Sum.inl (l260,(w64 (sv132.2+1))))
 else
 some (Sum.inr sv132.1))
def M6 (slices1:(List (List Epoch))):Option (List Epoch):=
 (l9 (G8 slices1) (0,0)).bind fun e74=>
 (M7 e74).bind fun rv121=>
 (l9 (G9 slices1) (rv121,0)).bind fun e213=>
 some e213
def a3z (a1:Epoch) (b5:Epoch):Option Bool:=
 ((if (((a1.Rate.Num == b5.Rate.Num) && ((a1.Rate.Den == b5.Rate.Den) && true)) && ((a1.Position.X == b5.Position.X) && ((a1.Position.Y == b5.Position.Y) && ((a1.Position.Z == b5.Position.Z) && true))))=true then
 (a2D a1.Response b5.Response).bind fun rv24=>
 some rv24
 else
 some false)).bind fun c21=>
 some c21
def K8 (s1:(List Span)):Option (List Span):=
 (R5 16 ([]:List Span) s1).bind fun l11=>
 some l11
def O7 (s1:(List Span)) (f5:Span→Option Bool) (sv78:Int):Option (Int ⊕ Int):=
 (if (decide (sv78<(s1.length:Int)))=true then
 (ix s1 sv78).bind fun x172=>
 (f5 x172).bind fun rv184=>
 (if rv184=true then
 some (Sum.inr sv78)
 else
 some (Sum.inl (w64 (sv78+1))))
 else
 Option.map Sum.inr (some (-1)))
def M0 (s1:(List Span)) (f5:Span→Option Bool):Option Int:=
 l9 (O7 s1 f5) (0)
def J3 (sv23:((List Span) × Int × Int)) (sv248:(List Span)) (i249:Int):Option (((List Span) × Int × Int) ⊕ ((List Span) × Int)):=
 (some (w64 (sv23.2.2+1))).bind fun j251=>
 some (Sum.inl (sv248,i249,j251))
def O5 (del6:Span→Option Bool) (sv23:((List Span) × Int × Int)):Option (((List Span) × Int × Int) ⊕ ((List Span) × Int)):=
 (if (decide (sv23.2.2<(sv23.1.length:Int)))=true then
 (ix sv23.1 sv23.2.2).bind fun x211=>
 (del6 x211).bind fun rv224=>
 (if (!rv224)=true then
 (ix sv23.1 sv23.2.1).bind fun x255=>
 (a3C sv23.1 sv23.2.1 x211).bind fun l263=>
 (some (w64 (sv23.2.1+1))).bind fun i268=>
 J3 sv23 l263 i268
 else
 J3 sv23 sv23.1 sv23.2.1)
 else
 some (Sum.inr (sv23.1,sv23.2.1)))
def K9 (s1:(List Span)) (del6:Span→Option Bool):Option (List Span):=
 (M0 s1 del6).bind fun rv12=>
 (if (rv12 == (-1))=true then
 some s1
 else
 (some (w64 (rv12+1))).bind fun j22=>
 (l9 (O5 del6) (s1,rv12,j22)).bind fun e163=>
 (D6 e163.1 e163.2 (e163.1.length:Int)).bind fun l274=>
 (some (H8 e163.1 e163.2 (e163.1.length:Int) (List.replicate l274.length ((⟨0,0⟩:Span):Span)))).bind fun l275=>
 (D6 l275 0 e163.2).bind fun l284=>
 some l284)
def a7o (s1:Span):Option Bool:=
 some (decide (s1.From<s1.To))
def a2P (s1:Span):Option Bool:=
 (a7o s1).bind fun rv4=>
 some (!rv4)
def Q0 (x1:(List Span)) (cmp6:Span→Span→Option Int):Option (List Span):=
 a6Z x1 cmp6
def cmp_isNaN_int (x1:Int):Option Bool:=
 some (x1 != x1)
def cmp_Compare_int (x1:Int) (y2:Int):Option Int:=
 (cmp_isNaN_int x1).bind fun rv4=>
 (cmp_isNaN_int y2).bind fun rv12=>
 (if rv4=true then
 (if rv12=true then
 some 0
 else
 some (-1))
 else
 (if rv12=true then
 some 1
 else
 (if (decide (x1<y2))=true then
 some (-1)
 else
 (if (decide (y2<x1))=true then
 some 1
 else
 some 0))))
def a1E (a1:Span) (b2:Span):Option Int:=
 (cmp_Compare_int a1.From b2.From).bind fun rv6=>
 some rv6
def a3J (sv42:((List Span) × Int)) (out428:(List Span)):Option (((List Span) × Int) ⊕ (List Span)):=
 some (Sum.inl (out428,(w64 (sv42.2+1))))
def a2i (rv30:(List Span)) (sv42:((List Span) × Int)):Option (((List Span) × Int) ⊕ (List Span)):=
 (if (decide (sv42.2<(rv30.length:Int)))=true then
 (ix rv30 sv42.2).bind fun x344=>
 (some (sv42.1.length:Int)).bind fun n357=>
 (if (decide (0<n357))=true then
 (ix sv42.1 (w64 (n357 - 1))).bind fun x360=>
 some (decide (x344.From≤x360.To))
 else
 some false).bind fun c371=>
 (if c371=true then
 (ix sv42.1 (w64 (n357 - 1))).bind fun x432=>
 (ix sv42.1 (w64 (n357 - 1))).bind fun x445=>
 (a3C sv42.1 (w64 (n357 - 1)) (⟨x445.From,(max x432.To x344.To)⟩:Span)).bind fun l453=>
 a3J sv42 l453
 else
 (R5 16 sv42.1 ([x344]:List Span)).bind fun l460=>
 a3J sv42 l460)
 else
 some (Sum.inr sv42.1))
def a2h (l1:(List Span)):Option (List Span):=
 (K8 l1).bind fun rv6=>
 (K9 rv6 a2P).bind fun rv18=>
 (Q0 rv18 a1E).bind fun rv30=>
 (l9 (a2i rv30) (([]:List Span),0)).bind fun e264=>
 some e264
def a2F (sv701:((List Span) × Int × Int)) (out869:(List Span)) (atv870:Int):Option (((List Span) × Int × Int) ⊕ ((List Span) × Int)):=
 some (Sum.inl (out869,atv870,(w64 (sv701.2.2+1))))
def a2G (sv701:((List Span) × Int × Int)) (x873:Span) (out900:(List Span)):Option (((List Span) × Int × Int) ⊕ ((List Span) × Int)):=
 (some (max sv701.2.1 x873.To)).bind fun atv902=>
 a2F sv701 out900 atv902
def a1I (rv10:(List Span)) (x689:Span) (sv701:((List Span) × Int × Int)):Option (((List Span) × Int × Int) ⊕ ((List Span) × Int)):=
 (if (decide (sv701.2.2<(rv10.length:Int)))=true then
 (ix rv10 sv701.2.2).bind fun x873=>
 (if ((decide (x873.To≤sv701.2.1)) || (decide (x689.To≤x873.From)))=true then
 a2F sv701 sv701.1 sv701.2.1
 else
 (if (decide (sv701.2.1<x873.From))=true then
 (R5 16 sv701.1 ([(⟨sv701.2.1,x873.From⟩:Span)]:List Span)).bind fun l907=>
 a2G sv701 x873 l907
 else
 a2G sv701 x873 sv701.1))
 else
 some (Sum.inr (sv701.1,sv701.2.1)))
def a2H (sv33:((List Span) × Int)) (out924:(List Span)):Option (((List Span) × Int) ⊕ (List Span)):=
 some (Sum.inl (out924,(w64 (sv33.2+1))))
def a1H (rv10:(List Span)) (rv22:(List Span)) (sv33:((List Span) × Int)):Option (((List Span) × Int) ⊕ (List Span)):=
 (if (decide (sv33.2<(rv22.length:Int)))=true then
 (ix rv22 sv33.2).bind fun x689=>
 (l9 (a1I rv10 x689) (sv33.1,x689.From,0)).bind fun e827=>
 (if (decide (e827.2<x689.To))=true then
 (R5 16 e827.1 ([(⟨e827.2,x689.To⟩:Span)]:List Span)).bind fun l929=>
 a2H sv33 l929
 else
 a2H sv33 e827.1)
 else
 some (Sum.inr sv33.1))
def a6n (a1:(List Span)) (b5:(List Span)):Option (List Span):=
 (a2h b5).bind fun rv10=>
 (a2h a1).bind fun rv22=>
 (l9 (a1H rv10 rv22) (([]:List Span),0)).bind fun e522=>
 some e522
def a1m (rv12:(List Epoch)) (sv24:((List Span) × Int)):Option (((List Span) × Int) ⊕ (List Span)):=
 (if (decide (sv24.2<(rv12.length:Int)))=true then
 (ix rv12 sv24.2).bind fun x148=>
 (R5 16 sv24.1 ([(⟨x148.From,x148.To⟩:Span)]:List Span)).bind fun l167=>
 some (Sum.inl (l167,(w64 (sv24.2+1))))
 else
 some (Sum.inr sv24.1))
def a1l (sv832:((List Span) × Int)) (same1048:(List Span)):Option (((List Span) × Int) ⊕ (List Span)):=
 some (Sum.inl (same1048,(w64 (sv832.2+1))))
def a1o (b5:(List Epoch)) (x816:Epoch) (sv832:((List Span) × Int)):Option (((List Span) × Int) ⊕ (List Span)):=
 (if (decide (sv832.2<(b5.length:Int)))=true then
 (ix b5 sv832.2).bind fun x1012=>
 (a3z x816 x1012).bind fun rv1029=>
 (if rv1029=true then
 (R5 16 sv832.1 ([(⟨(max x816.From x1012.From),(min x816.To x1012.To)⟩:Span)]:List Span)).bind fun l1053=>
 a1l sv832 l1053
 else
 a1l sv832 sv832.1)
 else
 some (Sum.inr sv832.1))
def a1n (a1:(List Epoch)) (b5:(List Epoch)) (sv172:((List Span) × Int)):Option (((List Span) × Int) ⊕ (List Span)):=
 (if (decide (sv172.2<(a1.length:Int)))=true then
 (ix a1 sv172.2).bind fun x816=>
 (l9 (a1o b5 x816) (sv172.1,0)).bind fun e964=>
 some (Sum.inl (e964,(w64 (sv172.2+1))))
 else
 some (Sum.inr sv172.1))
def X0 (a1:(List Epoch)) (b5:(List Epoch)):Option (List Span):=
 (M6 ([a1,b5]:List (List Epoch))).bind fun rv12=>
 (l9 (a1m rv12) (([]:List Span),0)).bind fun e114=>
 (l9 (a1n a1 b5) (([]:List Span),0)).bind fun e652=>
 (a6n e114 e652).bind fun rv1061=>
 some rv1061
def a0r (rv43:(List Channel)) (sv55:((List SourceID) × Int)):Option (((List SourceID) × Int) ⊕ (List SourceID)):=
 (if (decide (sv55.2<(rv43.length:Int)))=true then
 (ix rv43 sv55.2).bind fun x179=>
 (R5 64 sv55.1 ([x179.Source]:List SourceID)).bind fun l198=>
 some (Sum.inl (l198,(w64 (sv55.2+1))))
 else
 some (Sum.inr sv55.1))
def a0q (sv216:((List Affected) × Int)) (out577:(List Affected)):Option (((List Affected) × Int) ⊕ (List Affected)):=
 some (Sum.inl (out577,(w64 (sv216.2+1))))
def a0s (a1:Inventory) (b5:Inventory) (rv204:(List SourceID)) (sv216:((List Affected) × Int)):Option (((List Affected) × Int) ⊕ (List Affected)):=
 (if (decide (sv216.2<(rv204.length:Int)))=true then
 (ix rv204 sv216.2).bind fun x512=>
 (a1Z a1 x512).bind fun rv525=>
 (a1Z b5 x512).bind fun rv538=>
 (X0 rv525.1.Epochs rv538.1.Epochs).bind fun rv551=>
 (if (decide (0<(rv551.length:Int)))=true then
 (R5 88 sv216.1 ([(⟨x512,rv551⟩:Affected)]:List Affected)).bind fun l583=>
 a0q sv216 l583
 else
 a0q sv216 sv216.1)
 else
 some (Sum.inr sv216.1))
def R8 (a1:Inventory) (b5:Inventory):Option (List Affected):=
 (a0m a1).bind fun rv12=>
 ((if (!rv12)=true then
 some true
 else
 (a0m b5).bind fun rv31=>
 some (!rv31))).bind fun c28=>
 (if c28=true then
 some ([]:List Affected)
 else
 (J6 ([a1.Channels,b5.Channels]:List (List Channel))).bind fun rv43=>
 (l9 (a0r rv43) (([]:List SourceID),0)).bind fun e145=>
 (a5c e145).bind fun rv204=>
 (l9 (a0s a1 b5 rv204) (([]:List Affected),0)).bind fun e435=>
 some e435)
def a3Z (a1:(List Span)) (b5:(List Span)) (sv109:Int):Option (Int ⊕ Bool):=
 (if (decide (sv109<(a1.length:Int)))=true then
 (ix a1 sv109).bind fun x241=>
 (ix b5 sv109).bind fun x254=>
 (if (!((x241.From == x254.From) && ((x241.To == x254.To) && true)))=true then
 some (Sum.inr false)
 else
 (some (w64 (sv109+1))).bind fun i270=>
 some (Sum.inl i270))
 else
 Option.map Sum.inr (some true))
def a4H (a1:(List Span)) (b5:(List Span)):Option Bool:=
 (if ((a1.length:Int) != (b5.length:Int))=true then
 some false
 else
 l9 (a3Z a1 b5) (0))
def a2R:Option Bool:=
 (H6 (⟨([]:List Channel)⟩:Inventory) (⟨0,(⟨(⟨#[65]⟩:ByteArray),(⟨#[66]⟩:ByteArray),ByteArray.empty,(⟨#[72,72,90]⟩:ByteArray)⟩:SourceID),10,(⟨10,20,(⟨100,1⟩:Rate),(⟨0,0,0⟩:Position),(⟨([]:List Stage)⟩:Response)⟩:Epoch)⟩:Change)).bind fun rv4=>
 (H6 rv4.1 (⟨2,(⟨(⟨#[65]⟩:ByteArray),(⟨#[66]⟩:ByteArray),ByteArray.empty,(⟨#[72,72,90]⟩:ByteArray)⟩:SourceID),10,(⟨10,25,(⟨100,1⟩:Rate),(⟨0,0,0⟩:Position),(⟨([]:List Stage)⟩:Response)⟩:Epoch)⟩:Change)).bind fun rv17=>
 (R8 rv4.1 rv17.1).bind fun rv31=>
 (if (((rv4.2 == 0) && (rv17.2 == 0)) && ((rv31.length:Int) == 1))=true then
 (ix rv31 0).bind fun x45=>
 some ((x45.Source.Network == (⟨#[65]⟩:ByteArray)) && ((x45.Source.Station == (⟨#[66]⟩:ByteArray)) && ((x45.Source.Location == ByteArray.empty) && ((x45.Source.Channel == (⟨#[72,72,90]⟩:ByteArray)) && true))))
 else
 some false).bind fun c60=>
 (if c60=true then
 (ix rv31 0).bind fun x63=>
 (a4H x63.Spans ([(⟨20,25⟩:Span)]:List Span)).bind fun rv81=>
 some rv81
 else
 some false).bind fun c82=>
 some c82
def a9a (l1:(List Int)):Option Dice:=
 some (⟨l1,0⟩:Dice)
def a1N (d1:Dice) (x30:Int):Option (Int × Dice):=
 some (x30,(⟨d1.L,(w64 (d1.At+1))⟩:Dice))
def q8 (d1:Dice) (n6:Int):Option (Int × Dice):=
 (if ((decide ((d1.L.length:Int)≤d1.At)) || (decide (n6<1)))=true then
 some (0,d1)
 else
 (ix d1.L d1.At).bind fun x12=>
 (remM x12 n6).bind fun rem24=>
 (if (decide (rem24<0))=true then
 (some (w64 (rem24+n6))).bind fun x33=>
 a1N d1 x33
 else
 a1N d1 rem24))
def L8 (d1:Dice) (l6:(List Int)):Option (Int × Dice):=
 (q8 d1 (l6.length:Int)).bind fun rv11=>
 (ix l6 rv11.1).bind fun x23=>
 some (x23,rv11.2)
def a2l (d1:Dice):Option (SourceID × Dice):=
 (q8 d1 3).bind fun rv10=>
 (ix ([(⟨#[71,82]⟩:ByteArray),(⟨#[88]⟩:ByteArray),(⟨#[55,65]⟩:ByteArray)]:List ByteArray) rv10.1).bind fun x16=>
 (q8 rv10.2 4).bind fun rv26=>
 (ix ([(⟨#[70,85,82]⟩:ByteArray),(⟨#[65]⟩:ByteArray),(⟨#[65,66,67,68,69]⟩:ByteArray),(⟨#[70,85]⟩:ByteArray)]:List ByteArray) rv26.1).bind fun x32=>
 (q8 rv26.2 3).bind fun rv42=>
 (ix ([(⟨#[]⟩:ByteArray),(⟨#[48,48]⟩:ByteArray),(⟨#[49,48]⟩:ByteArray)]:List ByteArray) rv42.1).bind fun x48=>
 (q8 rv42.2 3).bind fun rv58=>
 (ix ([(⟨#[72,72,90]⟩:ByteArray),(⟨#[72,72,78]⟩:ByteArray),(⟨#[66,72,90]⟩:ByteArray)]:List ByteArray) rv58.1).bind fun x64=>
 some ((⟨x16,x32,x48,x64⟩:SourceID),rv58.2)
def R7 (n1:Int) (lo2:Int) (hi3:Int):Option Bool:=
 some ((decide (lo2≤n1)) && (decide (n1≤hi3)))
def a8y (sv3:(Int × Int)):Option ((Int × Int) ⊕ Int):=
 (if (sv3.2 != 0)=true then
 (remM sv3.1 sv3.2).bind fun rem29=>
 some (Sum.inl (sv3.2,rem29))
 else
 some (Sum.inr sv3.1))
def a5y (a1:Int) (b2:Int):Option Int:=
 (l9 (a8y) (a1,b2)).bind fun e21=>
 some e21
def a7k (num1:Int) (den2:Int):Option (Rate × Int):=
 (R7 num1 1 4096).bind fun rv5=>
 ((if (!rv5)=true then
 some true
 else
 (R7 den2 1 4096).bind fun rv24=>
 some (!rv24))).bind fun c21=>
 (if c21=true then
 some ((⟨0,0⟩:Rate),2)
 else
 (a5y num1 den2).bind fun rv34=>
 (quoM .i64 num1 rv34).bind fun quo42=>
 (quoM .i64 den2 rv34).bind fun quo44=>
 some ((⟨quo42,quo44⟩:Rate),0))
def a3q (d1:Dice):Option (Rate × Dice):=
 (L8 d1 ([1,3,20,100,40,4096,7]:List Int)).bind fun rv10=>
 (L8 rv10.2 ([1,1,1,3,7,4096]:List Int)).bind fun rv24=>
 (a7k rv10.1 rv24.1).bind fun rv36=>
 some (rv36.1,rv24.2)
def a1h (sv429:((List Int) × Int × (List Int) × Int)):Option (((List Int) × Int × (List Int) × Int) ⊕ ((List Int) × Int × (List Int))):=
 (if (decide (0<sv429.2.2.2))=true then
 (q8 (⟨sv429.1,sv429.2.1⟩:Dice) 4).bind fun rv564=>
 (R5 8 ([rv564.1]:List Int) sv429.2.2.1).bind fun l577=>
 (R5 8 l577 ([rv564.1]:List Int)).bind fun l584=>
 (some (w64 (sv429.2.2.2 - 1))).bind fun i589=>
 some (Sum.inl (rv564.2.L,rv564.2.At,l584,i589))
 else
 some (Sum.inr (sv429.1,sv429.2.1,sv429.2.2.1)))
def a2T (rv395:(Int × Dice)) (rv407:(Int × Dice)) (rv592:(Int × Dice)) (x614:(List Int)):Option (Stage × Dice):=
 some ((⟨2,(⟨0,0,0⟩:(Arr3 Int)),(⟨0,0,0⟩:(Arr3 Int)),x614,rv395.1,rv407.1⟩:Stage),rv592.2)
def a1w (d1:Dice):Option (Stage × Dice):=
 (q8 d1 3).bind fun rv8=>
 (if (rv8.1 == 0)=true then
 (q8 rv8.2 9).bind fun rv212=>
 (q8 rv212.2 9).bind fun rv223=>
 some ((⟨0,(⟨(w64 (1+rv212.1)),0,0⟩:(Arr3 Int)),(⟨(w64 (1+rv223.1)),0,0⟩:(Arr3 Int)),([]:List Int),0,0⟩:Stage),rv223.2)
 else
 (if (rv8.1 == 1)=true then
 (q8 rv8.2 9).bind fun rv308=>
 (q8 rv308.2 9).bind fun rv319=>
 (q8 rv319.2 3).bind fun rv330=>
 (L8 rv330.2 ([1,2,(-3),1048576]:List Int)).bind fun rv343=>
 (q8 rv343.2 9).bind fun rv355=>
 (L8 rv355.2 ([0,1,1048576]:List Int)).bind fun rv368=>
 some ((⟨1,(⟨(w64 (rv308.1 - 4)),(w64 (rv319.1 - 4)),rv330.1⟩:(Arr3 Int)),(⟨rv343.1,(w64 (rv355.1 - 4)),rv368.1⟩:(Arr3 Int)),([]:List Int),0,0⟩:Stage),rv368.2)
 else
 (q8 rv8.2 4).bind fun rv380=>
 (L8 rv380.2 ([1,1,2,5]:List Int)).bind fun rv395=>
 (q8 rv395.2 5).bind fun rv407=>
 (q8 rv407.2 3).bind fun rv419=>
 (l9 (a1h) (rv419.2.L,rv419.2.At,([(w64 (1+rv380.1))]:List Int),rv419.1)).bind fun e529=>
 (q8 (⟨e529.1,e529.2.1⟩:Dice) 6).bind fun rv592=>
 (if (rv592.1 == 0)=true then
 (R5 8 e529.2.2 ([3]:List Int)).bind fun l619=>
 a2T rv395 rv407 rv592 l619
 else
 a2T rv395 rv407 rv592 e529.2.2)))
def U1 (sv19:((List Int) × Int × (List Stage) × Int × Int)) (rv174:(Stage × Dice)) (n194:Int):Option (((List Int) × Int × (List Stage) × Int × Int) ⊕ ((List Int) × Int × (List Stage))):=
 (R5 96 sv19.2.2.1 ([rv174.1]:List Stage)).bind fun l199=>
 (some (w64 (sv19.2.2.2.2 - 1))).bind fun i204=>
 some (Sum.inl (rv174.2.L,rv174.2.At,l199,n194,i204))
def P5 (sv19:((List Int) × Int × (List Stage) × Int × Int)):Option (((List Int) × Int × (List Stage) × Int × Int) ⊕ ((List Int) × Int × (List Stage))):=
 (if (decide (0<sv19.2.2.2.2))=true then
 (a1w (⟨sv19.1,sv19.2.1⟩:Dice)).bind fun rv174=>
 (if (rv174.1.Kind == 2)=true then
 (some (w64 (sv19.2.2.2.1 * rv174.1.Factor))).bind fun n207=>
 (if (decide (64<n207))=true then
 some (Sum.inr (rv174.2.L,rv174.2.At,sv19.2.2.1))
 else
 U1 sv19 rv174 n207)
 else
 U1 sv19 rv174 sv19.2.2.2.1)
 else
 some (Sum.inr (sv19.1,sv19.2.1,sv19.2.2.1)))
def U5 (d1:Dice):Option (Response × Dice):=
 (q8 d1 4).bind fun rv9=>
 (l9 (P5) (rv9.2.L,rv9.2.At,([]:List Stage),1,rv9.1)).bind fun e134=>
 some ((⟨e134.2.2⟩:Response),(⟨e134.1,e134.2.1⟩:Dice))
def a2S (fromv19:Int) (rv21:(Rate × Dice)) (rv33:(Int × Dice)) (rv40:(Int × Dice)) (rv45:(Int × Dice)) (rv52:(Int × Dice)) (x169:(List Int)) (x170:Int) (x171:(List Stage)):Option (Epoch × Dice):=
 some ((⟨fromv19,(w64 (fromv19+(w64 (1000 * (w64 (1+rv33.1)))))),rv21.1,(⟨rv40.1,rv45.1,rv52.1⟩:Position),(⟨x171⟩:Response)⟩:Epoch),(⟨x169,x170⟩:Dice))
def a2J (d1:Dice):Option (Epoch × Dice):=
 (q8 d1 20).bind fun rv8=>
 (some (w64 (1000000000000+(w64 (1000 * rv8.1))))).bind fun fromv19=>
 (a3q rv8.2).bind fun rv21=>
 (q8 rv21.2 8).bind fun rv33=>
 (L8 rv33.2 ([0,500,(-1048576),1048576]:List Int)).bind fun rv40=>
 (q8 rv40.2 1000).bind fun rv45=>
 (L8 rv45.2 ([0,(-200),(-16384)]:List Int)).bind fun rv52=>
 (q8 rv52.2 2).bind fun rv137=>
 (if (rv137.1 == 0)=true then
 (U5 rv137.2).bind fun rv174=>
 a2S fromv19 rv21 rv33 rv40 rv45 rv52 rv174.2.L rv174.2.At rv174.1.Stages
 else
 a2S fromv19 rv21 rv33 rv40 rv45 rv52 rv137.2.L rv137.2.At ([]:List Stage))
def a4a (r1:Response) (sv8:((List Stage) × Int)):Option (((List Stage) × Int) ⊕ (List Stage)):=
 (if (decide (sv8.2<(r1.Stages.length:Int)))=true then
 (ix r1.Stages sv8.2).bind fun x162=>
 (R5 8 ([]:List Int) x162.Taps).bind fun l179=>
 (R5 96 sv8.1 ([(⟨x162.Kind,x162.Num,x162.Den,l179,x162.Factor,x162.Shift⟩:Stage)]:List Stage)).bind fun l187=>
 (some (w64 (sv8.2+1))).bind fun i192=>
 some (Sum.inl (l187,i192))
 else
 some (Sum.inr sv8.1))
def a7T (r1:Response):Option Response:=
 (l9 (a4a r1) (([]:List Stage),0)).bind fun e122=>
 some (⟨e122⟩:Response)
def V9 (e1:Epoch):Option Epoch:=
 (a7T e1.Response).bind fun rv8=>
 some (⟨e1.From,e1.To,e1.Rate,e1.Position,rv8⟩:Epoch)
def a0L (rv15:(Int × Dice)) (x297:(List Int)) (x298:Int) (x299:ByteArray) (x300:ByteArray) (x301:ByteArray) (x302:ByteArray) (x303:Int) (x304:Int) (x305:Int) (x306:Int) (x307:Int) (x308:Int) (x309:Int) (x310:Int) (x311:(List Stage)):Option (Change × Dice):=
 some ((⟨rv15.1,(⟨x299,x300,x301,x302⟩:SourceID),x303,(⟨x304,x305,(⟨x306,x307⟩:Rate),(⟨x308,x309,x310⟩:Position),(⟨x311⟩:Response)⟩:Epoch)⟩:Change),(⟨x297,x298⟩:Dice))
def a0M (rv15:(Int × Dice)) (x320:Channel) (x522:(List Int)) (x523:Int) (x524:Int) (x525:Int) (x526:Int) (x527:Int) (x528:Int) (x529:Int) (x530:Int) (x531:Int) (x532:(List Stage)):Option (Change × Dice):=
 a0L rv15 x522 x523 x320.Source.Network x320.Source.Station x320.Source.Location x320.Source.Channel x524 x525 x526 x527 x528 x529 x530 x531 x532
def X8 (rv15:(Int × Dice)) (x320:Channel) (x541:Epoch) (x702:(List Int)) (x703:Int) (x704:Int) (x705:Int) (x706:Int) (x707:Int) (x708:Int) (x709:Int) (x710:Int) (x711:(List Stage)):Option (Change × Dice):=
 a0M rv15 x320 x702 x703 x541.From x704 x705 x706 x707 x708 x709 x710 x711
def a0N (rv15:(Int × Dice)) (x320:Channel) (x541:Epoch) (rv714:Epoch) (x844:(List Int)) (x845:Int) (x846:Int) (x847:Int) (x848:(List Stage)):Option (Change × Dice):=
 X8 rv15 x320 x541 x844 x845 rv714.From x846 rv714.Rate.Num rv714.Rate.Den x847 rv714.Position.Y rv714.Position.Z x848
def a0O (rv15:(Int × Dice)) (x320:Channel) (x541:Epoch) (rv714:Epoch) (x932:(List Int)) (x933:Int) (x934:Int) (x935:(List Stage)):Option (Change × Dice):=
 a0N rv15 x320 x541 rv714 x932 x933 rv714.To x934 x935
def X9 (rv15:(Int × Dice)) (x320:Channel) (x541:Epoch) (rv714:Epoch) (x959:(List Int)) (x960:Int) (x961:(List Stage)):Option (Change × Dice):=
 a0O rv15 x320 x541 rv714 x959 x960 rv714.Position.X x961
def X7 (inv6:Inventory) (rv15:(Int × Dice)) (rv27:(SourceID × Dice)) (x60:(List Int)) (x61:Int) (x62:Int) (x63:Int) (x64:Int) (x65:Int) (x66:Int) (x67:Int) (x68:Int) (x69:Int) (x70:(List Stage)):Option (Change × Dice):=
 (some (inv6.Channels.length:Int)).bind fun n72=>
 ((if (decide (0<n72))=true then
 (q8 (⟨x60,x61⟩:Dice) 3).bind fun rv90=>
 some (rv90.2.L,rv90.2.At,(decide (0<rv90.1)))
 else
 some (x60,x61,false))).bind fun c85=>
 (if c85.2.2=true then
 (q8 (⟨c85.1,c85.2.1⟩:Dice) n72).bind fun rv314=>
 (ix inv6.Channels rv314.1).bind fun x320=>
 (if (rv15.1 != 0)=true then
 (q8 rv314.2 (x320.Epochs.length:Int)).bind fun rv535=>
 (ix x320.Epochs rv535.1).bind fun x541=>
 ((if (rv15.1 == 2)=true then
 (q8 rv535.2 3).bind fun rv605=>
 some (rv605.2.L,rv605.2.At,(decide (0<rv605.1)))
 else
 some (rv535.2.L,rv535.2.At,false))).bind fun c600=>
 (if c600.2.2=true then
 (V9 x541).bind fun rv714=>
 (q8 (⟨c600.1,c600.2.1⟩:Dice) 3).bind fun rv727=>
 (if (rv727.1 == 0)=true then
 (L8 rv727.2 ([(-1),500,3000]:List Int)).bind fun rv853=>
 a0N rv15 x320 x541 rv714 rv853.2.L rv853.2.At (w64 (rv714.To+rv853.1)) rv714.Position.X rv714.Response.Stages
 else
 (if (rv727.1 == 1)=true then
 a0O rv15 x320 x541 rv714 rv727.2.L rv727.2.At 77 rv714.Response.Stages
 else
 (if (rv727.1 == 2)=true then
 (U5 rv727.2).bind fun rv964=>
 X9 rv15 x320 x541 rv714 rv964.2.L rv964.2.At rv964.1.Stages
 else
 X9 rv15 x320 x541 rv714 rv727.2.L rv727.2.At rv714.Response.Stages)))
 else
 X8 rv15 x320 x541 c600.1 c600.2.1 x63 x64 x65 x66 x67 x68 x69 x70)
 else
 a0M rv15 x320 rv314.2.L rv314.2.At x62 x63 x64 x65 x66 x67 x68 x69 x70)
 else
 a0L rv15 c85.1 c85.2.1 rv27.1.Network rv27.1.Station rv27.1.Location rv27.1.Channel x62 x63 x64 x65 x66 x67 x68 x69 x70)
def U4 (d1:Dice) (inv6:Inventory):Option (Change × Dice):=
 (L8 d1 ([0,0,1,2]:List Int)).bind fun rv15=>
 (a2l rv15.2).bind fun rv27=>
 (if (rv15.1 != 1)=true then
 (a2J rv27.2).bind fun rv980=>
 X7 inv6 rv15 rv27 rv980.2.L rv980.2.At rv980.1.From rv980.1.From rv980.1.To rv980.1.Rate.Num rv980.1.Rate.Den rv980.1.Position.X rv980.1.Position.Y rv980.1.Position.Z rv980.1.Response.Stages
 else
 X7 inv6 rv15 rv27 rv27.2.L rv27.2.At 0 0 0 0 0 0 0 0 ([]:List Stage))
def a3X (s1:ByteArray) (lo2:Int) (hi3:Int) (sv111:Int):Option (Int ⊕ Bool):=
 (if (decide (sv111<(s1.size:Int)))=true then
 (a5h s1 sv111).bind fun c254=>
 ((if (decide (65≤c254))=true then
 (a5h s1 sv111).bind fun c261=>
 some (decide (c261≤90))
 else
 some false)).bind fun c258=>
 ((if c258=true then
 some true
 else
 (a5h s1 sv111).bind fun c275=>
 ((if (decide (48≤c275))=true then
 (a5h s1 sv111).bind fun c282=>
 some (decide (c282≤57))
 else
 some false)).bind fun c279=>
 some c279)).bind fun c272=>
 (if (!c272)=true then
 some (Sum.inr false)
 else
 (some (w64 (sv111+1))).bind fun i287=>
 some (Sum.inl i287))
 else
 Option.map Sum.inr (some ((decide (lo2≤(s1.size:Int))) && (decide ((s1.size:Int)≤hi3)))))
def a2U (s1:ByteArray) (lo2:Int) (hi3:Int):Option Bool:=
 l9 (a3X s1 lo2 hi3) (0)
def a4i (s1:SourceID):Option Bool:=
 (a2U s1.Network 1 2).bind fun rv4=>
 ((if rv4=true then
 (a2U s1.Station 1 5).bind fun rv23=>
 some rv23
 else
 some false)).bind fun c20=>
 ((if c20=true then
 ((if (s1.Location.toList == (⟨#[]⟩:ByteArray).toList)=true then
 some true
 else
 (a2U s1.Location 2 2).bind fun rv64=>
 some rv64)).bind fun c61=>
 some c61
 else
 some false)).bind fun c50=>
 ((if c50=true then
 (a2U s1.Channel 3 3).bind fun rv83=>
 some rv83
 else
 some false)).bind fun c80=>
 some c80
def a0B (a1:ByteArray) (b2:ByteArray):Option Int:=
 (if (Op.bytesLess a1.toList b2.toList)=true then
 some (-1)
 else
 (if (!((Op.bytesLess a1.toList b2.toList) || (a1.toList == b2.toList)))=true then
 some 1
 else
 some 0))
def a2n (rv6:Int) (rv8:Int) (rv10:Int) (rv12:Int) (sv55:Int):Option (Int ⊕ Int):=
 (if (decide (sv55<4))=true then
 (ix ([rv6,rv8,rv10,rv12]:List Int) sv55).bind fun x80=>
 (if (x80 != 0)=true then
 some (Sum.inr x80)
 else
 some (Sum.inl (w64 (sv55+1))))
 else
 Option.map Sum.inr (some 0))
def a1G (a1:SourceID) (b2:SourceID):Option Int:=
 (a0B a1.Network b2.Network).bind fun rv6=>
 (a0B a1.Station b2.Station).bind fun rv8=>
 (a0B a1.Location b2.Location).bind fun rv10=>
 (a0B a1.Channel b2.Channel).bind fun rv12=>
 l9 (a2n rv6 rv8 rv10 rv12) (0)
def a4Y (r1:Rate):Option Bool:=
 (R7 r1.Num 1 4096).bind fun rv4=>
 ((if rv4=true then
 (R7 r1.Den 1 4096).bind fun rv23=>
 some rv23
 else
 some false)).bind fun c20=>
 ((if c20=true then
 (a5y r1.Num r1.Den).bind fun rv42=>
 some (rv42 == 1)
 else
 some false)).bind fun c39=>
 some c39
def a2b (l1:(List Int)) (sv85:Int):Option (Int ⊕ Bool):=
 (if (decide (sv85<(l1.length:Int)))=true then
 (ix l1 sv85).bind fun x193=>
 (R7 x193 (-1048576) 1048576).bind fun rv205=>
 (if (!rv205)=true then
 some (Sum.inr false)
 else
 (some (w64 (sv85+1))).bind fun i216=>
 some (Sum.inl i216))
 else
 Option.map Sum.inr (some true))
def a3e (l1:(List Int)):Option Bool:=
 l9 (a2b l1) (0)
def b0d (l1:(List Int)) (sv5:(Int × Int)):Option ((Int × Int) ⊕ Int):=
 (if (decide (sv5.2<(l1.length:Int)))=true then
 (ix l1 sv5.2).bind fun x86=>
 (some (w64 (sv5.1+x86))).bind fun n98=>
 (some (w64 (sv5.2+1))).bind fun i100=>
 some (Sum.inl (n98,i100))
 else
 some (Sum.inr sv5.1))
def a6O (l1:(List Int)):Option Int:=
 (l9 (b0d l1) (0,0)).bind fun e65=>
 some e65
def Y9 (s1:Stage):Option Bool:=
 (if (s1.Kind == 0)=true then
 ((if ((((s1.Taps.length:Int) == 0) && (s1.Factor == 0)) && (s1.Shift == 0))=true then
 (R7 s1.Num.e0 1 1048576).bind fun rv399=>
 some rv399
 else
 some false)).bind fun c396=>
 ((if c396=true then
 (R7 s1.Den.e0 1 1048576).bind fun rv418=>
 some rv418
 else
 some false)).bind fun c415=>
 some ((((c415 && (s1.Num.e1 == 0)) && (s1.Num.e2 == 0)) && (s1.Den.e1 == 0)) && (s1.Den.e2 == 0))
 else
 (if (s1.Kind == 1)=true then
 ((if ((((s1.Taps.length:Int) == 0) && (s1.Factor == 0)) && (s1.Shift == 0))=true then
 (a3e ([s1.Num.e0,s1.Num.e1,s1.Num.e2]:List Int)).bind fun rv590=>
 some rv590
 else
 some false)).bind fun c586=>
 ((if c586=true then
 (a3e ([s1.Den.e0,s1.Den.e1,s1.Den.e2]:List Int)).bind fun rv610=>
 some rv610
 else
 some false)).bind fun c607=>
 some (c607 && (s1.Den.e0 != 0))
 else
 (if (s1.Kind == 2)=true then
 ((if (((s1.Num.e0 == 0) && ((s1.Num.e1 == 0) && ((s1.Num.e2 == 0) && true))) && ((s1.Den.e0 == 0) && ((s1.Den.e1 == 0) && ((s1.Den.e2 == 0) && true))))=true then
 (R7 (s1.Taps.length:Int) 1 128).bind fun rv731=>
 some rv731
 else
 some false)).bind fun c728=>
 ((if c728=true then
 (a3e s1.Taps).bind fun rv750=>
 some rv750
 else
 some false)).bind fun c747=>
 ((if c747=true then
 (a6O s1.Taps).bind fun rv769=>
 some (rv769 != 0)
 else
 some false)).bind fun c766=>
 ((if c766=true then
 (R7 s1.Factor 1 64).bind fun rv788=>
 some rv788
 else
 some false)).bind fun c785=>
 ((if c785=true then
 (R7 s1.Shift 0 40).bind fun rv807=>
 some rv807
 else
 some false)).bind fun c804=>
 some c804
 else
 some false)))
def a2a (sv188:(Int × Int)) (n487:Int):Option ((Int × Int) ⊕ Bool):=
 (some (w64 (sv188.2+1))).bind fun i489=>
 some (Sum.inl (n487,i489))
def a4I (r1:Response) (sv188:(Int × Int)):Option ((Int × Int) ⊕ Bool):=
 (if (decide (sv188.2<(r1.Stages.length:Int)))=true then
 (ix r1.Stages sv188.2).bind fun x432=>
 (Y9 x432).bind fun rv448=>
 (if (!rv448)=true then
 some (Sum.inr false)
 else
 (ix r1.Stages sv188.2).bind fun x460=>
 (if (x460.Kind == 2)=true then
 (ix r1.Stages sv188.2).bind fun x493=>
 (some (w64 (sv188.1 * x493.Factor))).bind fun n504=>
 (if (decide (64<n504))=true then
 some (Sum.inr false)
 else
 a2a sv188 n504)
 else
 a2a sv188 sv188.1))
 else
 Option.map Sum.inr (some (decide ((r1.Stages.length:Int)≤8))))
def a3d (r1:Response):Option Bool:=
 l9 (a4I r1) (1,0)
def a0T (e1:Epoch):Option Bool:=
 ((if (((decide (0≤e1.From)) && (decide (e1.From<e1.To))) && (decide (e1.To≤9007199254740992)))=true then
 (a4Y e1.Rate).bind fun rv21=>
 some rv21
 else
 some false)).bind fun c18=>
 ((if c18=true then
 (a3d e1.Response).bind fun rv40=>
 some rv40
 else
 some false)).bind fun c37=>
 ((if c37=true then
 (R7 e1.Position.X (-1048576) 1048576).bind fun rv59=>
 some rv59
 else
 some false)).bind fun c56=>
 ((if c56=true then
 (R7 e1.Position.Y (-1048576) 1048576).bind fun rv78=>
 some rv78
 else
 some false)).bind fun c75=>
 ((if c75=true then
 (R7 e1.Position.Z (-16384) 1048576).bind fun rv97=>
 some rv97
 else
 some false)).bind fun c94=>
 some c94
def a0n (sv608:Int) (x1412:Channel) (sv1709:Int):Option (Int ⊕ (Int ⊕ Bool)):=
 (if (decide (sv1709<(x1412.Epochs.length:Int)))=true then
 (ix x1412.Epochs sv1709).bind fun x1917=>
 (a0T x1917).bind fun rv1933=>
 (if (!rv1933)=true then
 some true
 else
 (if (decide (0<sv1709))=true then
 (ix x1412.Epochs sv1709).bind fun x1936=>
 (ix x1412.Epochs (w64 (sv1709 - 1))).bind fun x1948=>
 some (decide (x1936.From<x1948.To))
 else
 some false).bind fun c1958=>
 some c1958).bind fun c1959=>
 (if c1959=true then
 some (Sum.inr (Sum.inr false))
 else
 (some (w64 (sv1709+1))).bind fun k2039=>
 some (Sum.inl k2039))
 else
 Option.map Sum.inr ((some (w64 (sv608+1))).bind fun i2041=>
 some (Sum.inl i2041)))
def a3u (inv1:Inventory) (sv608:Int):Option (Int ⊕ Bool):=
 (if (decide (sv608<(inv1.Channels.length:Int)))=true then
 (ix inv1.Channels sv608).bind fun x1412=>
 (a4i x1412.Source).bind fun rv1429=>
 (if (!rv1429)=true then
 some true
 else
 (if (decide (0<sv608))=true then
 (ix inv1.Channels (w64 (sv608 - 1))).bind fun x1432=>
 (a1G x1432.Source x1412.Source).bind fun rv1443=>
 some (decide (0≤rv1443))
 else
 some false).bind fun c1444=>
 some c1444).bind fun c1445=>
 (if c1445=true then
 some true
 else
 (R7 (x1412.Epochs.length:Int) 1 32).bind fun rv1447=>
 some (!rv1447)).bind fun c1448=>
 (if c1448=true then
 some (Sum.inr false)
 else
 l9 (a0n sv608 x1412) (0))
 else
 Option.map Sum.inr (some (decide ((inv1.Channels.length:Int)≤128))))
def a3f (inv1:Inventory):Option Bool:=
 l9 (a3u inv1) (0)
def a1i (a1:Stage) (b5:Stage) (sv116:Int):Option (Int ⊕ Bool):=
 (if (decide (sv116<(a1.Taps.length:Int)))=true then
 (ix a1.Taps sv116).bind fun x248=>
 (ix b5.Taps sv116).bind fun x261=>
 (if (x248 != x261)=true then
 some (Sum.inr false)
 else
 (some (w64 (sv116+1))).bind fun i277=>
 some (Sum.inl i277))
 else
 Option.map Sum.inr (some true))
def a2M (a1:Stage) (b5:Stage):Option Bool:=
 (if ((((((a1.Kind != b5.Kind) || (!((a1.Num.e0 == b5.Num.e0) && ((a1.Num.e1 == b5.Num.e1) && ((a1.Num.e2 == b5.Num.e2) && true))))) || (!((a1.Den.e0 == b5.Den.e0) && ((a1.Den.e1 == b5.Den.e1) && ((a1.Den.e2 == b5.Den.e2) && true))))) || (a1.Factor != b5.Factor)) || (a1.Shift != b5.Shift)) || ((a1.Taps.length:Int) != (b5.Taps.length:Int)))=true then
 some false
 else
 l9 (a1i a1 b5) (0))
def a4b (a1:Response) (b5:Response) (sv141:Int):Option (Int ⊕ Bool):=
 (if (decide (sv141<(a1.Stages.length:Int)))=true then
 (ix a1.Stages sv141).bind fun x313=>
 (ix b5.Stages sv141).bind fun x330=>
 (a2M x313 x330).bind fun rv346=>
 (if (!rv346)=true then
 some (Sum.inr false)
 else
 (some (w64 (sv141+1))).bind fun i358=>
 some (Sum.inl i358))
 else
 Option.map Sum.inr (some true))
def a6c (a1:Response) (b5:Response):Option Bool:=
 (if ((a1.Stages.length:Int) != (b5.Stages.length:Int))=true then
 some false
 else
 l9 (a4b a1 b5) (0))
def W9 (a1:Epoch) (b5:Epoch):Option Bool:=
 ((if ((((a1.From == b5.From) && (a1.To == b5.To)) && ((a1.Rate.Num == b5.Rate.Num) && ((a1.Rate.Den == b5.Rate.Den) && true))) && ((a1.Position.X == b5.Position.X) && ((a1.Position.Y == b5.Position.Y) && ((a1.Position.Z == b5.Position.Z) && true))))=true then
 (a6c a1.Response b5.Response).bind fun rv26=>
 some rv26
 else
 some false)).bind fun c23=>
 some c23
def a6h (e1:Epoch):Option Bool:=
 (W9 e1 (⟨0,0,(⟨0,0⟩:Rate),(⟨0,0,0⟩:Position),(⟨([]:List Stage)⟩:Response)⟩:Epoch)).bind fun rv7=>
 some rv7
def a6g (inv1:Inventory) (c5:Change):Option Bool:=
 (a3f inv1).bind fun rv12=>
 ((if (!rv12)=true then
 some true
 else
 (R7 c5.Kind 0 2).bind fun rv31=>
 some (!rv31))).bind fun c28=>
 ((if c28=true then
 some true
 else
 (a4i c5.Source).bind fun rv50=>
 some (!rv50))).bind fun c47=>
 (if c47=true then
 some false
 else
 (if (c5.Kind == 1)=true then
 (a6h c5.Epoch).bind fun rv70=>
 some rv70
 else
 (a0T c5.Epoch).bind fun rv78=>
 some (rv78 && ((c5.Kind == 2) || (c5.From == c5.Epoch.From)))))
def a4d (inv1:Inventory) (sv8:((List Channel) × Int)) (sv922:((List Epoch) × Int)):Option (((List Epoch) × Int) ⊕ (List Epoch)):=
 (ix inv1.Channels sv8.2).bind fun x1115=>
 (if (decide (sv922.2<(x1115.Epochs.length:Int)))=true then
 (ix inv1.Channels sv8.2).bind fun x1172=>
 (ix x1172.Epochs sv922.2).bind fun x1184=>
 (V9 x1184).bind fun rv1200=>
 (R5 80 sv922.1 ([rv1200]:List Epoch)).bind fun l1208=>
 (some (w64 (sv922.2+1))).bind fun k1250=>
 some (Sum.inl (l1208,k1250))
 else
 some (Sum.inr sv922.1))
def a4c (inv1:Inventory) (sv8:((List Channel) × Int)):Option (((List Channel) × Int) ⊕ (List Channel)):=
 (if (decide (sv8.2<(inv1.Channels.length:Int)))=true then
 (ix inv1.Channels sv8.2).bind fun x906=>
 (l9 (a4d inv1 sv8) (([]:List Epoch),0)).bind fun e1108=>
 (R5 88 sv8.1 ([(⟨x906.Source,e1108⟩:Channel)]:List Channel)).bind fun l1256=>
 (some (w64 (sv8.2+1))).bind fun i1261=>
 some (Sum.inl (l1256,i1261))
 else
 some (Sum.inr sv8.1))
def a4K (inv1:Inventory):Option Inventory:=
 (l9 (a4c inv1) (([]:List Channel),0)).bind fun e680=>
 some (⟨e680⟩:Inventory)
def a4o (inv1:Inventory) (c5:Change) (sv511:Int) (sv1342:Int):Option (Int ⊕ (Int ⊕ (Int × Int))):=
 (ix inv1.Channels sv511).bind fun x1487=>
 (if (decide (sv1342<(x1487.Epochs.length:Int)))=true then
 (ix inv1.Channels sv511).bind fun x1534=>
 (ix x1534.Epochs sv1342).bind fun x1546=>
 (if (x1546.From == c5.From)=true then
 some (Sum.inr (Sum.inr (sv511,sv1342)))
 else
 (some (w64 (sv1342+1))).bind fun k1567=>
 some (Sum.inl k1567))
 else
 Option.map Sum.inr (some (Sum.inr (sv511,(-1)))))
def a4P (inv1:Inventory) (c5:Change) (sv511:Int):Option (Int ⊕ (Int × Int)):=
 (if (decide (sv511<(inv1.Channels.length:Int)))=true then
 (ix inv1.Channels sv511).bind fun x1179=>
 (if (!((x1179.Source.Network == c5.Source.Network) && ((x1179.Source.Station == c5.Source.Station) && ((x1179.Source.Location == c5.Source.Location) && ((x1179.Source.Channel == c5.Source.Channel) && true)))))=true then
 (some (w64 (sv511+1))).bind fun i1198=>
 some (Sum.inl i1198)
 else
 l9 (a4o inv1 c5 sv511) (0))
 else
 Option.map Sum.inr (some ((-1),(-1))))
def a5b (inv1:Inventory) (c5:Change):Option (Int × Int):=
 l9 (a4P inv1 c5) (0)
def a3x (l1:(List Epoch)) (e5:Epoch) (sv120:Int):Option (Int ⊕ Bool):=
 (if (decide (sv120<(l1.length:Int)))=true then
 (ix l1 sv120).bind fun x268=>
 (if (decide (x268.From<e5.To))=true then
 (ix l1 sv120).bind fun x285=>
 some (decide (e5.From<x285.To))
 else
 some false).bind fun c295=>
 (if c295=true then
 some (Sum.inr true)
 else
 (some (w64 (sv120+1))).bind fun i316=>
 some (Sum.inl i316))
 else
 Option.map Sum.inr (some false))
def a3w (l1:(List Epoch)) (e5:Epoch):Option Bool:=
 l9 (a3x l1 e5) (0)
def a6f (l1:(List Epoch)) (e5:Epoch) (sv10:Int):Option (Int ⊕ Int):=
 (if (decide (sv10<(l1.length:Int)))=true then
 (ix l1 sv10).bind fun x86=>
 some (decide (x86.From<e5.From))
 else
 some false).bind fun c101=>
 (if c101=true then
 (some (w64 (sv10+1))).bind fun k128=>
 some (Sum.inl k128)
 else
 some (Sum.inr sv10))
def a7l (l1:(List Epoch)) (e5:Epoch):Option (List Epoch):=
 (l9 (a6f l1 e5) (0)).bind fun e82=>
 (D6 l1 0 e82).bind fun l135=>
 (R5 80 ([]:List Epoch) l135).bind fun l137=>
 (V9 e5).bind fun rv142=>
 (R5 80 l137 ([rv142]:List Epoch)).bind fun l150=>
 (D6 l1 e82 (l1.length:Int)).bind fun l159=>
 (R5 80 l150 l159).bind fun l161=>
 some l161
def a4M (x184:(List Channel)):Option (Inventory × Int):=
 some ((⟨x184⟩:Inventory),0)
def a2d (c5:Change) (x336:(List Channel)) (i337:Int):Option (Inventory × Int):=
 (ix x336 i337).bind fun x340=>
 (a3w x340.Epochs c5.Epoch).bind fun rv356=>
 (if rv356=true then
 some ((⟨([]:List Channel)⟩:Inventory),11)
 else
 (ix x336 i337).bind fun x368=>
 (a7l x368.Epochs c5.Epoch).bind fun rv380=>
 (ix x336 i337).bind fun x387=>
 (a3C x336 i337 (⟨x387.Source,rv380⟩:Channel)).bind fun l399=>
 ((if (decide (128<(l399.length:Int)))=true then
 some true
 else
 (ix l399 i337).bind fun x428=>
 some (decide (32<(x428.Epochs.length:Int))))).bind fun c424=>
 (if c424=true then
 some ((⟨([]:List Channel)⟩:Inventory),8)
 else
 some ((⟨l399⟩:Inventory),0)))
def a4N (c5:Change) (x106:(List Channel)) (sv443:Int):Option (Int ⊕ Int):=
 (if (decide (sv443<(x106.length:Int)))=true then
 (ix x106 sv443).bind fun x525=>
 (a1G x525.Source c5.Source).bind fun rv541=>
 some (decide (rv541<0))
 else
 some false).bind fun c542=>
 (if c542=true then
 (some (w64 (sv443+1))).bind fun i577=>
 some (Sum.inl i577)
 else
 some (Sum.inr sv443))
def a0U (c5:Change) (rv36:(Int × Int)) (x106:(List Channel)):Option (Inventory × Int):=
 (if (c5.Kind == 1)=true then
 (ix x106 rv36.1).bind fun x149=>
 (if ((x149.Epochs.length:Int) == 0)=true then
 (D6 x106 0 rv36.1).bind fun l190=>
 (D6 x106 (w64 (rv36.1+1)) (x106.length:Int)).bind fun l196=>
 (R5 88 l190 l196).bind fun l198=>
 a4M l198
 else
 a4M x106)
 else
 (if (decide (rv36.1<0))=true then
 (l9 (a4N c5 x106) (0)).bind fun e521=>
 (R5 88 x106 ([(⟨(⟨ByteArray.empty,ByteArray.empty,ByteArray.empty,ByteArray.empty⟩:SourceID),([]:List Epoch)⟩:Channel)]:List Channel)).bind fun l582=>
 (D6 l582 (w64 (e521+1)) (l582.length:Int)).bind fun l590=>
 (D6 l582 e521 (l582.length:Int)).bind fun l595=>
 (some (H8 l582 (w64 (e521+1)) (l582.length:Int) l595)).bind fun l596=>
 (ix l596 e521).bind fun x606=>
 (a3C l596 e521 (⟨c5.Source,([]:List Epoch)⟩:Channel)).bind fun l622=>
 a2d c5 l622 e521
 else
 a2d c5 x106 rv36.1))
def a2c (inv1:Inventory) (c5:Change):Option (Inventory × Int):=
 (a6g inv1 c5).bind fun rv13=>
 (if (!rv13)=true then
 some ((⟨([]:List Channel)⟩:Inventory),1)
 else
 (a4K inv1).bind fun rv23=>
 (a5b rv23 c5).bind fun rv36=>
 (if (c5.Kind != 0)=true then
 (if (decide (rv36.2<0))=true then
 some ((⟨([]:List Channel)⟩:Inventory),6)
 else
 (ix rv23.Channels rv36.1).bind fun x631=>
 (D6 x631.Epochs 0 rv36.2).bind fun l651=>
 (R5 80 ([]:List Epoch) l651).bind fun l653=>
 (D6 x631.Epochs (w64 (rv36.2+1)) (x631.Epochs.length:Int)).bind fun l662=>
 (R5 80 l653 l662).bind fun l664=>
 (ix rv23.Channels rv36.1).bind fun x670=>
 (a3C rv23.Channels rv36.1 (⟨x670.Source,l664⟩:Channel)).bind fun l682=>
 a0U c5 rv36 l682)
 else
 a0U c5 rv36 rv23.Channels))
def Y5 (sv20:((List Int) × Int × (List Channel) × Int)) (rv136:(Change × Dice)) (x227:(List Channel)):Option (((List Int) × Int × (List Channel) × Int) ⊕ ((List Int) × Int × (List Channel))):=
 (some (w64 (sv20.2.2.2 - 1))).bind fun i229=>
 some (Sum.inl (rv136.2.L,rv136.2.At,x227,i229))
def a1g (sv20:((List Int) × Int × (List Channel) × Int)):Option (((List Int) × Int × (List Channel) × Int) ⊕ ((List Int) × Int × (List Channel))):=
 (if (decide (0<sv20.2.2.2))=true then
 (U4 (⟨sv20.1,sv20.2.1⟩:Dice) (⟨sv20.2.2.1⟩:Inventory)).bind fun rv136=>
 (a2c (⟨sv20.2.2.1⟩:Inventory) rv136.1).bind fun rv145=>
 (if (rv145.2 == 0)=true then
 Y5 sv20 rv136 rv145.1.Channels
 else
 Y5 sv20 rv136 sv20.2.2.1)
 else
 some (Sum.inr (sv20.1,sv20.2.1,sv20.2.2.1)))
def Y0 (d1:Dice) (n6:Int):Option (Inventory × Dice):=
 (q8 d1 (w64 (n6+1))).bind fun rv10=>
 (l9 (a1g) (rv10.2.L,rv10.2.At,([]:List Channel),rv10.1)).bind fun e106=>
 some ((⟨e106.2.2⟩:Inventory),(⟨e106.1,e106.2.1⟩:Dice))
def a5o (inv1:Inventory) (s5:SourceID) (sv185:Int):Option (Int ⊕ (Channel × Bool)):=
 (if (decide (sv185<(inv1.Channels.length:Int)))=true then
 (ix inv1.Channels sv185).bind fun x421=>
 (if ((x421.Source.Network == s5.Network) && ((x421.Source.Station == s5.Station) && ((x421.Source.Location == s5.Location) && ((x421.Source.Channel == s5.Channel) && true))))=true then
 (D6 inv1.Channels sv185 (w64 (sv185+1))).bind fun l479=>
 (a4K (⟨l479⟩:Inventory)).bind fun rv481=>
 (ix rv481.Channels 0).bind fun x494=>
 some (Sum.inr (x494,true))
 else
 (some (w64 (sv185+1))).bind fun i511=>
 some (Sum.inl i511))
 else
 Option.map Sum.inr (some ((⟨(⟨ByteArray.empty,ByteArray.empty,ByteArray.empty,ByteArray.empty⟩:SourceID),([]:List Epoch)⟩:Channel),false)))
def a6d (inv1:Inventory) (s5:SourceID):Option (Channel × Bool):=
 l9 (a5o inv1 s5) (0)
def a4l (sv5:((List Span) × Int)) (sorted716:(List Span)):Option (((List Span) × Int) ⊕ (List Span)):=
 (some (w64 (sv5.2+1))).bind fun i718=>
 some (Sum.inl (sorted716,i718))
def a2L (l1:(List Span)) (sv5:((List Span) × Int)) (sv745:Int):Option (Int ⊕ Int):=
 (if (decide (0<sv745))=true then
 (ix sv5.1 (w64 (sv745 - 1))).bind fun x833=>
 (ix l1 sv5.2).bind fun x846=>
 some (decide (x846.From<x833.From))
 else
 some false).bind fun c852=>
 (if c852=true then
 (some (w64 (sv745 - 1))).bind fun k883=>
 some (Sum.inl k883)
 else
 some (Sum.inr sv745))
def a2K (l1:(List Span)) (sv5:((List Span) × Int)):Option (((List Span) × Int) ⊕ (List Span)):=
 (if (decide (sv5.2<(l1.length:Int)))=true then
 (ix l1 sv5.2).bind fun x721=>
 (ix l1 sv5.2).bind fun x734=>
 (if (decide (x734.To≤x721.From))=true then
 a4l sv5 sv5.1
 else
 (some (sv5.1.length:Int)).bind fun k744=>
 (l9 (a2L l1 sv5) (k744)).bind fun e829=>
 (ix l1 sv5.2).bind fun x887=>
 (R5 16 sv5.1 ([x887]:List Span)).bind fun l896=>
 (D6 l896 (w64 (e829+1)) (l896.length:Int)).bind fun l904=>
 (D6 l896 e829 (l896.length:Int)).bind fun l909=>
 (some (H8 l896 (w64 (e829+1)) (l896.length:Int) l909)).bind fun l910=>
 (ix l1 sv5.2).bind fun x920=>
 (ix l910 e829).bind fun x928=>
 (a3C l910 e829 x920).bind fun l940=>
 a4l sv5 l940)
 else
 some (Sum.inr sv5.1))
def a4m (sv945:((List Span) × Int)) (out1475:(List Span)):Option (((List Span) × Int) ⊕ (List Span)):=
 (some (w64 (sv945.2+1))).bind fun i1477=>
 some (Sum.inl (out1475,i1477))
def a1x (e539:(List Span)) (sv945:((List Span) × Int)):Option (((List Span) × Int) ⊕ (List Span)):=
 (if (decide (sv945.2<(e539.length:Int)))=true then
 (some (sv945.1.length:Int)).bind fun n1352=>
 (if (decide (0<n1352))=true then
 (ix e539 sv945.2).bind fun x1355=>
 (ix sv945.1 (w64 (n1352 - 1))).bind fun x1368=>
 some (decide (x1355.From≤x1368.To))
 else
 some false).bind fun c1379=>
 (if c1379=true then
 (ix sv945.1 (w64 (n1352 - 1))).bind fun x1481=>
 (ix e539 sv945.2).bind fun x1494=>
 (ix sv945.1 (w64 (n1352 - 1))).bind fun x1507=>
 (a3C sv945.1 (w64 (n1352 - 1)) (⟨x1507.From,(max x1481.To x1494.To)⟩:Span)).bind fun l1515=>
 a4m sv945 l1515
 else
 (ix e539 sv945.2).bind fun x1521=>
 (R5 16 sv945.1 ([x1521]:List Span)).bind fun l1535=>
 a4m sv945 l1535)
 else
 some (Sum.inr sv945.1))
def a3s (l1:(List Span)):Option (List Span):=
 (l9 (a2K l1) (([]:List Span),0)).bind fun e539=>
 (l9 (a1x e539) (([]:List Span),0)).bind fun e1248=>
 some e1248
def a4C (sv1338:((List Span) × Int × Int)) (out1692:(List Span)) (fromv1693:Int):Option (((List Span) × Int × Int) ⊕ ((List Span) × Int)):=
 (some (w64 (sv1338.2.2+1))).bind fun k1695=>
 some (Sum.inl (out1692,fromv1693,k1695))
def a4D (rv22:(List Span)) (sv1338:((List Span) × Int × Int)) (out1782:(List Span)):Option (((List Span) × Int × Int) ⊕ ((List Span) × Int)):=
 (ix rv22 sv1338.2.2).bind fun x1785=>
 (some (max sv1338.2.1 x1785.To)).bind fun fromv1793=>
 a4C sv1338 out1782 fromv1793
def a4G (rv10:(List Span)) (rv22:(List Span)) (sv33:((List Span) × Int)) (sv1338:((List Span) × Int × Int)):Option (((List Span) × Int × Int) ⊕ ((List Span) × Int)):=
 (if (decide (sv1338.2.2<(rv22.length:Int)))=true then
 (ix rv22 sv1338.2.2).bind fun x1698=>
 (if (decide (x1698.To≤sv1338.2.1))=true then
 some true
 else
 (ix rv22 sv1338.2.2).bind fun x1711=>
 (ix rv10 sv33.2).bind fun x1720=>
 some (decide (x1720.To≤x1711.From))).bind fun c1727=>
 (if c1727=true then
 a4C sv1338 sv1338.1 sv1338.2.1
 else
 (ix rv22 sv1338.2.2).bind fun x1754=>
 (if (decide (sv1338.2.1<x1754.From))=true then
 (ix rv22 sv1338.2.2).bind fun x1797=>
 (R5 16 sv1338.1 ([(⟨sv1338.2.1,x1797.From⟩:Span)]:List Span)).bind fun l1807=>
 a4D rv22 sv1338 l1807
 else
 a4D rv22 sv1338 sv1338.1))
 else
 some (Sum.inr (sv1338.1,sv1338.2.1)))
def a4E (sv33:((List Span) × Int)) (out1842:(List Span)):Option (((List Span) × Int) ⊕ (List Span)):=
 (some (w64 (sv33.2+1))).bind fun i1844=>
 some (Sum.inl (out1842,i1844))
def a4F (rv10:(List Span)) (rv22:(List Span)) (sv33:((List Span) × Int)):Option (((List Span) × Int) ⊕ (List Span)):=
 (if (decide (sv33.2<(rv10.length:Int)))=true then
 (ix rv10 sv33.2).bind fun x1327=>
 (l9 (a4G rv10 rv22 sv33) (sv33.1,x1327.From,0)).bind fun e1605=>
 (ix rv10 sv33.2).bind fun x1814=>
 (if (decide (e1605.2<x1814.To))=true then
 (ix rv10 sv33.2).bind fun x1848=>
 (R5 16 e1605.1 ([(⟨e1605.2,x1848.To⟩:Span)]:List Span)).bind fun l1858=>
 a4E sv33 l1858
 else
 a4E sv33 e1605.1)
 else
 some (Sum.inr sv33.1))
def a4Z (a1:(List Span)) (b5:(List Span)):Option (List Span):=
 (a3s a1).bind fun rv10=>
 (a3s b5).bind fun rv22=>
 (l9 (a4F rv10 rv22) (([]:List Span),0)).bind fun e1002=>
 some e1002
def a3t (sv528:Int) (x1216:Channel) (x1233:Channel) (sv1383:Int):Option (Int ⊕ (Int ⊕ Bool)):=
 (if (decide (sv1383<(x1216.Epochs.length:Int)))=true then
 (ix x1216.Epochs sv1383).bind fun x1555=>
 (ix x1233.Epochs sv1383).bind fun x1572=>
 (W9 x1555 x1572).bind fun rv1588=>
 (if (!rv1588)=true then
 some (Sum.inr (Sum.inr false))
 else
 (some (w64 (sv1383+1))).bind fun k1601=>
 some (Sum.inl k1601))
 else
 Option.map Sum.inr ((some (w64 (sv528+1))).bind fun i1603=>
 some (Sum.inl i1603)))
def a4e (a1:Inventory) (b5:Inventory) (sv528:Int):Option (Int ⊕ Bool):=
 (if (decide (sv528<(a1.Channels.length:Int)))=true then
 (ix a1.Channels sv528).bind fun x1216=>
 (ix b5.Channels sv528).bind fun x1233=>
 (if ((!((x1216.Source.Network == x1233.Source.Network) && ((x1216.Source.Station == x1233.Source.Station) && ((x1216.Source.Location == x1233.Source.Location) && ((x1216.Source.Channel == x1233.Source.Channel) && true))))) || ((x1216.Epochs.length:Int) != (x1233.Epochs.length:Int)))=true then
 some (Sum.inr false)
 else
 l9 (a3t sv528 x1216 x1233) (0))
 else
 Option.map Sum.inr (some true))
def a6e (a1:Inventory) (b5:Inventory):Option Bool:=
 (if ((a1.Channels.length:Int) != (b5.Channels.length:Int))=true then
 some false
 else
 l9 (a4e a1 b5) (0))
def K4 (s1:(List Affected)) (f5:Affected→Option Bool) (sv90:Int):Option (Int ⊕ Int):=
 (if (decide (sv90<(s1.length:Int)))=true then
 (ix s1 sv90).bind fun x200=>
 (f5 x200).bind fun rv216=>
 (if rv216=true then
 some (Sum.inr sv90)
 else
 some (Sum.inl (w64 (sv90+1))))
 else
 Option.map Sum.inr (some (-1)))
def M3 (s1:(List Affected)) (f5:Affected→Option Bool):Option Int:=
 l9 (K4 s1 f5) (0)
def K3 (s1:(List Affected)) (f5:Affected→Option Bool):Option Bool:=
 (M3 s1 f5).bind fun rv11=>
 some (decide (0≤rv11))
def a4t (out501:(List Span)) (i527:Int) (k528:Int):Option (((List Span) × Int × Int) ⊕ (List Span)):=
 some (Sum.inl (out501,i527,k528))
def a0z (rv10:(List Span)) (rv22:(List Span)) (sv33:((List Span) × Int × Int)) (out501:(List Span)):Option (((List Span) × Int × Int) ⊕ (List Span)):=
 (ix rv10 sv33.2.1).bind fun x504=>
 (ix rv22 sv33.2.2).bind fun x513=>
 (if (decide (x504.To<x513.To))=true then
 (some (w64 (sv33.2.1+1))).bind fun i531=>
 a4t out501 i531 sv33.2.2
 else
 (some (w64 (sv33.2.2+1))).bind fun k533=>
 a4t out501 sv33.2.1 k533)
def a6m (rv10:(List Span)) (rv22:(List Span)) (sv33:((List Span) × Int × Int)):Option (((List Span) × Int × Int) ⊕ (List Span)):=
 (if ((decide (sv33.2.1<(rv10.length:Int))) && (decide (sv33.2.2<(rv22.length:Int))))=true then
 (ix rv10 sv33.2.1).bind fun x437=>
 (ix rv22 sv33.2.2).bind fun x450=>
 (ix rv10 sv33.2.1).bind fun x463=>
 (ix rv22 sv33.2.2).bind fun x472=>
 (a7o (⟨(max x437.From x450.From),(min x463.To x472.To)⟩:Span)).bind fun rv482=>
 (if rv482=true then
 (R5 16 sv33.1 ([(⟨(max x437.From x450.From),(min x463.To x472.To)⟩:Span)]:List Span)).bind fun l538=>
 a0z rv10 rv22 sv33 l538
 else
 a0z rv10 rv22 sv33 sv33.1)
 else
 some (Sum.inr sv33.1))
def a9l (a1:(List Span)) (b5:(List Span)):Option (List Span):=
 (a2h a1).bind fun rv10=>
 (a2h b5).bind fun rv22=>
 (l9 (a6m rv10 rv22) (([]:List Span),0,0)).bind fun e333=>
 some e333
def a8I (l1:(List Span)) (from5:Int) (to6:Int):Option (List Span):=
 (a9l l1 ([(⟨from5,to6⟩:Span)]:List Span)).bind fun rv10=>
 some rv10
def Q6 (x1:Affected) (x5:SourceID) (x8:Int) (x11:Int):Option Bool:=
 ((if ((x1.Source.Network == x5.Network) && ((x1.Source.Station == x5.Station) && ((x1.Source.Location == x5.Location) && ((x1.Source.Channel == x5.Channel) && true))))=true then
 (a8I x1.Spans x8 x11).bind fun rv31=>
 some (decide (0<(rv31.length:Int)))
 else
 some false)).bind fun c28=>
 some c28
def a0a (l1:(List Affected)) (s5:SourceID) (from6:Int) (to7:Int):Option Bool:=
 (K3 l1 (fun y0=>Q6 y0 s5 from6 to7)).bind fun rv12=>
 some rv12
def Q5 (rv327:(List Affected)) (rv333:(List Affected)) (rv339:(List Affected)) (sv545:Int) (x787:SourceID) (sv842:Int):Option (Int ⊕ (Int ⊕ Bool)):=
 (if (decide (sv842<30))=true then
 (some (w64 (1000000000000+(w64 (1000 * sv842))))).bind fun atv905=>
 (a0a rv327 x787 atv905 (w64 (atv905+1000))).bind fun rv907=>
 (a0a rv333 x787 atv905 (w64 (atv905+1000))).bind fun rv909=>
 (if rv909=true then
 some true
 else
 (a0a rv339 x787 atv905 (w64 (atv905+1000))).bind fun rv911=>
 some rv911).bind fun c912=>
 (if (!(rv907 == c912))=true then
 some (Sum.inr (Sum.inr false))
 else
 (some (w64 (sv842+1))).bind fun n954=>
 some (Sum.inl n954))
 else
 Option.map Sum.inr (some (Sum.inl (w64 (sv545+1)))))
def Y4 (rv59:(Change × Dice)) (rv68:(Change × Dice)) (rv327:(List Affected)) (rv333:(List Affected)) (rv339:(List Affected)) (sv545:Int):Option (Int ⊕ Bool):=
 (if (decide (sv545<(([rv59.1.Source,rv68.1.Source]:List SourceID).length:Int)))=true then
 (ix ([rv59.1.Source,rv68.1.Source]:List SourceID) sv545).bind fun x787=>
 l9 (Q5 rv327 rv333 rv339 sv545 x787) (0)
 else
 Option.map Sum.inr (((if ((rv327.length:Int) == (w64 ((rv333.length:Int)+(rv339.length:Int))))=true then
 (a2R).bind fun rv969=>
 some rv969
 else
 some false)).bind fun c966=>
 some c966))
def a2z (t1:(List Int)):Option Bool:=
 (a5Z t1).bind fun rv6=>
 (if (!rv6)=true then
 (a2R).bind fun rv24=>
 some rv24
 else
 (a9a t1).bind fun rv32=>
 (Y0 rv32 7).bind fun rv44=>
 (U4 rv44.2 rv44.1).bind fun rv59=>
 (U4 rv59.2 rv44.1).bind fun rv68=>
 (if ((rv59.1.Source.Network == rv68.1.Source.Network) && ((rv59.1.Source.Station == rv68.1.Source.Station) && ((rv59.1.Source.Location == rv68.1.Source.Location) && ((rv59.1.Source.Channel == rv68.1.Source.Channel) && true))))=true then
 (a2R).bind fun rv222=>
 some rv222
 else
 (H6 rv44.1 rv59.1).bind fun rv230=>
 (H6 rv44.1 rv68.1).bind fun rv244=>
 (if ((rv230.2 != 0) || (rv244.2 != 0))=true then
 (a2R).bind fun rv269=>
 some rv269
 else
 (H6 rv230.1 rv68.1).bind fun rv277=>
 (H6 rv244.1 rv59.1).bind fun rv291=>
 ((if ((rv277.2 != 0) || (rv291.2 != 0))=true then
 some true
 else
 (a6e rv277.1 rv291.1).bind fun rv317=>
 some (!rv317))).bind fun c314=>
 (if c314=true then
 some false
 else
 (R8 rv44.1 rv277.1).bind fun rv327=>
 (R8 rv44.1 rv230.1).bind fun rv333=>
 (R8 rv44.1 rv244.1).bind fun rv339=>
 l9 (Y4 rv59 rv68 rv327 rv333 rv339) (0)))))
def a5m (sv5:((List SourceID) × Int)) (out836:(List SourceID)):Option (((List SourceID) × Int) ⊕ (List SourceID)):=
 (some (w64 (sv5.2+1))).bind fun i838=>
 some (Sum.inl (out836,i838))
def a5n (l1:(List SourceID)) (sv5:((List SourceID) × Int)) (sv839:Int):Option (Int ⊕ Int):=
 (if (decide (sv839<(sv5.1.length:Int)))=true then
 (ix sv5.1 sv839).bind fun x948=>
 (ix l1 sv5.2).bind fun x961=>
 (a1G x948 x961).bind fun rv973=>
 some (decide (rv973<0))
 else
 some false).bind fun c974=>
 (if c974=true then
 (some (w64 (sv839+1))).bind fun k1018=>
 some (Sum.inl k1018)
 else
 some (Sum.inr sv839))
def a3V (l1:(List SourceID)) (sv5:((List SourceID) × Int)):Option (((List SourceID) × Int) ⊕ (List SourceID)):=
 (if (decide (sv5.2<(l1.length:Int)))=true then
 (l9 (a5n l1 sv5) (0)).bind fun e944=>
 (if (decide (e944<(sv5.1.length:Int)))=true then
 (ix sv5.1 e944).bind fun x1022=>
 (ix l1 sv5.2).bind fun x1035=>
 some ((x1022.Network == x1035.Network) && ((x1022.Station == x1035.Station) && ((x1022.Location == x1035.Location) && ((x1022.Channel == x1035.Channel) && true))))
 else
 some false).bind fun c1046=>
 (if c1046=true then
 a5m sv5 sv5.1
 else
 (ix l1 sv5.2).bind fun x1081=>
 (R5 64 sv5.1 ([x1081]:List SourceID)).bind fun l1095=>
 (D6 l1095 (w64 (e944+1)) (l1095.length:Int)).bind fun l1103=>
 (D6 l1095 e944 (l1095.length:Int)).bind fun l1108=>
 (some (H8 l1095 (w64 (e944+1)) (l1095.length:Int) l1108)).bind fun l1109=>
 (ix l1 sv5.2).bind fun x1119=>
 (ix l1109 e944).bind fun x1127=>
 (a3C l1109 e944 x1119).bind fun l1139=>
 a5m sv5 l1139)
 else
 some (Sum.inr sv5.1))
def a7S (l1:(List SourceID)):Option (List SourceID):=
 (l9 (a3V l1) (([]:List SourceID),0)).bind fun e629=>
 some e629
def a7V (a1:Epoch) (b5:Epoch):Option Bool:=
 (W9 (⟨b5.From,b5.To,a1.Rate,a1.Position,a1.Response⟩:Epoch) b5).bind fun rv13=>
 some rv13
def a4n (sv1175:((List Span) × Int)) (own1563:(List Span)):Option (((List Span) × Int) ⊕ (List Span)):=
 (some (w64 (sv1175.2+1))).bind fun k1565=>
 some (Sum.inl (own1563,k1565))
def a1y (a1:Channel) (b5:Channel) (sv11:((List Span) × Int)) (sv1175:((List Span) × Int)):Option (((List Span) × Int) ⊕ (List Span)):=
 (if (decide (sv1175.2<(b5.Epochs.length:Int)))=true then
 (ix a1.Epochs sv11.2).bind fun x1489=>
 (ix b5.Epochs sv1175.2).bind fun x1501=>
 (a7V x1489 x1501).bind fun rv1517=>
 (if rv1517=true then
 (ix b5.Epochs sv1175.2).bind fun x1569=>
 (ix b5.Epochs sv1175.2).bind fun x1581=>
 (a4Z sv1175.1 ([(⟨x1569.From,x1581.To⟩:Span)]:List Span)).bind fun rv1594=>
 a4n sv1175 rv1594
 else
 a4n sv1175 sv1175.1)
 else
 some (Sum.inr sv1175.1))
def a2N (a1:Channel) (b5:Channel) (sv11:((List Span) × Int)):Option (((List Span) × Int) ⊕ (List Span)):=
 (if (decide (sv11.2<(a1.Epochs.length:Int)))=true then
 (ix a1.Epochs sv11.2).bind fun x1145=>
 (ix a1.Epochs sv11.2).bind fun x1162=>
 (l9 (a1y a1 b5 sv11) (([(⟨x1145.From,x1162.To⟩:Span)]:List Span),0)).bind fun e1409=>
 (R5 16 sv11.1 e1409).bind fun l1610=>
 (some (w64 (sv11.2+1))).bind fun i1615=>
 some (Sum.inl (l1610,i1615))
 else
 some (Sum.inr sv11.1))
def a2p (a1:Channel) (b5:Channel):Option (List Span):=
 (l9 (a2N a1 b5) (([]:List Span),0)).bind fun e860=>
 some e860
def a5a (a1:(List Span)) (b5:(List Span)):Option (List Span):=
 (R5 16 ([]:List Span) a1).bind fun l10=>
 (R5 16 l10 b5).bind fun l15=>
 (a3s l15).bind fun rv20=>
 some rv20
def a1O (a1:Inventory) (sv40:((List SourceID) × Int)):Option (((List SourceID) × Int) ⊕ (List SourceID)):=
 (if (decide (sv40.2<(a1.Channels.length:Int)))=true then
 (ix a1.Channels sv40.2).bind fun x166=>
 (R5 64 sv40.1 ([x166.Source]:List SourceID)).bind fun l184=>
 (some (w64 (sv40.2+1))).bind fun i189=>
 some (Sum.inl (l184,i189))
 else
 some (Sum.inr sv40.1))
def a1P (b5:Inventory) (sv191:((List SourceID) × Int)):Option (((List SourceID) × Int) ⊕ (List SourceID)):=
 (if (decide (sv191.2<(b5.Channels.length:Int)))=true then
 (ix b5.Channels sv191.2).bind fun x317=>
 (R5 64 sv191.1 ([x317.Source]:List SourceID)).bind fun l335=>
 (some (w64 (sv191.2+1))).bind fun i340=>
 some (Sum.inl (l335,i340))
 else
 some (Sum.inr sv191.1))
def a3v (sv355:((List Affected) × Int)) (out852:(List Affected)):Option (((List Affected) × Int) ⊕ (List Affected)):=
 (some (w64 (sv355.2+1))).bind fun i854=>
 some (Sum.inl (out852,i854))
def a1Q (a1:Inventory) (b5:Inventory) (rv343:(List SourceID)) (sv355:((List Affected) × Int)):Option (((List Affected) × Int) ⊕ (List Affected)):=
 (if (decide (sv355.2<(rv343.length:Int)))=true then
 (ix rv343 sv355.2).bind fun x697=>
 (a6d a1 x697).bind fun rv709=>
 (ix rv343 sv355.2).bind fun x747=>
 (a6d b5 x747).bind fun rv755=>
 (a2p rv709.1 rv755.1).bind fun rv792=>
 (a2p rv755.1 rv709.1).bind fun rv798=>
 (a5a rv792 rv798).bind fun rv804=>
 (if (decide (0<(rv804.length:Int)))=true then
 (ix rv343 sv355.2).bind fun x858=>
 (R5 88 sv355.1 ([(⟨x858,rv804⟩:Affected)]:List Affected)).bind fun l869=>
 a3v sv355 l869
 else
 a3v sv355 sv355.1)
 else
 some (Sum.inr sv355.1))
def a6P (a1:Inventory) (b5:Inventory):Option (List Affected):=
 (a3f a1).bind fun rv12=>
 ((if (!rv12)=true then
 some true
 else
 (a3f b5).bind fun rv31=>
 some (!rv31))).bind fun c28=>
 (if c28=true then
 some ([]:List Affected)
 else
 (l9 (a1O a1) (([]:List SourceID),0)).bind fun e133=>
 (l9 (a1P b5) (e133,0)).bind fun e284=>
 (a7S e284).bind fun rv343=>
 (l9 (a1Q a1 b5 rv343) (([]:List Affected),0)).bind fun e610=>
 some e610)
end
end Go.Proofs.YteanekphncdhiaaGreat.Sh

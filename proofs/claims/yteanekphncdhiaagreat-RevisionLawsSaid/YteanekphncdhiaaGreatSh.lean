/- Each Go function as a plain program over lists and numbers (none: a panic, or no end). Printed by a program of ours out of the translation. -/
import Derived.Test.YteanekphncdhiaaGreatShData
import Derived.Test.YteanekphncdhiaaGreatLb1
namespace Go.Proofs.YteanekphncdhiaaGreat.Sh
open Go
noncomputable section
set_option linter.unusedVariables false
def a6m (l1:(List Int)):Option Bool:=
 some (decide ((l1.length:Int)≤500))
def a4T (c1:Int):Option Bool:=
 some (((decide (65≤c1)) && (decide (c1≤90))) || ((decide (48≤c1)) && (decide (c1≤57))))
def a3V (s1:ByteArray) (low2:Int) (high3:Int) (sv45:Int):Option (Int ⊕ Bool):=
 (if (decide (sv45<(s1.size:Int)))=true then
 (a5x s1 sv45).bind fun c102=>
 (a4T c102).bind fun rv104=>
 (if (!rv104)=true then
 some (Sum.inr false)
 else
 some (Sum.inl (w64 (sv45+1))))
 else
 Option.map Sum.inr (some ((decide (low2≤(s1.size:Int))) && (decide ((s1.size:Int)≤high3)))))
def a2k (s1:ByteArray) (low2:Int) (high3:Int):Option Bool:=
 o5 (a3V s1 low2 high3) (0)
def a3T (s1:SourceID):Option Bool:=
 (a2k s1.Network 1 2).bind fun rv4=>
 ((if rv4=true then
 (a2k s1.Station 1 5).bind fun rv23=>
 some rv23
 else
 some false)).bind fun c20=>
 ((if c20=true then
 (a2k s1.Location 0 2).bind fun rv42=>
 some rv42
 else
 some false)).bind fun c39=>
 ((if (c39 && ((s1.Location.size:Int) != 1))=true then
 (a2k s1.Channel 3 3).bind fun rv62=>
 some rv62
 else
 some false)).bind fun c59=>
 some c59
def b0c (n1:Int) (low2:Int) (high3:Int):Option Bool:=
 some ((decide (low2≤n1)) && (decide (n1≤high3)))
def a9N (sv3:(Int × Int)):Option ((Int × Int) ⊕ Int):=
 (if (sv3.2 != 0)=true then
 (remM sv3.1 sv3.2).bind fun rem29=>
 some (Sum.inl (sv3.2,rem29))
 else
 some (Sum.inr sv3.1))
def a8P (a1:Int) (b2:Int):Option Int:=
 (o5 (a9N) (a1,b2)).bind fun e21=>
 some e21
def a6o (r1:Rate):Option Bool:=
 (b0c r1.Num 1 4096).bind fun rv4=>
 ((if rv4=true then
 (b0c r1.Den 1 4096).bind fun rv23=>
 some rv23
 else
 some false)).bind fun c20=>
 ((if c20=true then
 (a8P r1.Num r1.Den).bind fun rv42=>
 some (rv42 == 1)
 else
 some false)).bind fun c39=>
 some c39
def D7 (s1:(List Stage)) (f5:Stage→Option Bool) (sv90:Int):Option (Int ⊕ Int):=
 (if (decide (sv90<(s1.length:Int)))=true then
 (ix s1 sv90).bind fun x200=>
 (f5 x200).bind fun rv216=>
 (if rv216=true then
 some (Sum.inr sv90)
 else
 some (Sum.inl (w64 (sv90+1))))
 else
 Option.map Sum.inr (some (-1)))
def K8 (s1:(List Stage)) (f5:Stage→Option Bool):Option Int:=
 o5 (D7 s1 f5) (0)
def A7 (s1:(List Stage)) (f5:Stage→Option Bool):Option Bool:=
 (K8 s1 f5).bind fun rv11=>
 some (decide (0≤rv11))
def Y4 (n1:Int) (low2:Int) (high3:Int):Option Bool:=
 some ((decide (low2≤n1)) && (decide (n1≤high3)))
def W9 (s1:(List Int)) (f5:Int→Option Bool) (sv78:Int):Option (Int ⊕ Int):=
 (if (decide (sv78<(s1.length:Int)))=true then
 (ix s1 sv78).bind fun x172=>
 (f5 x172).bind fun rv184=>
 (if rv184=true then
 some (Sum.inr sv78)
 else
 some (Sum.inl (w64 (sv78+1))))
 else
 Option.map Sum.inr (some (-1)))
def U0 (s1:(List Int)) (f5:Int→Option Bool):Option Int:=
 o5 (W9 s1 f5) (0)
def Q3 (s1:(List Int)) (f5:Int→Option Bool):Option Bool:=
 (U0 s1 f5).bind fun rv11=>
 some (decide (0≤rv11))
def a0b (n1:Int):Option Bool:=
 (Y4 n1 (-1048576) 1048576).bind fun rv3=>
 some (!rv3)
def V3 (l1:(List Int)):Option Bool:=
 (Q3 l1 a0b).bind fun rv6=>
 some (!rv6)
def a0m (l1:(List Int)) (sv5:(Int × Int)):Option ((Int × Int) ⊕ Int):=
 (if (decide (sv5.2<(l1.length:Int)))=true then
 (ix l1 sv5.2).bind fun x80=>
 (some (w64 (sv5.1+x80))).bind fun n92=>
 some (Sum.inl (n92,(w64 (sv5.2+1))))
 else
 some (Sum.inr sv5.1))
def a1o (l1:(List Int)):Option Int:=
 (o5 (a0m l1) (0,0)).bind fun e59=>
 some e59
def O4 (s1:Stage):Option Bool:=
 (if (s1.Kind == 0)=true then
 ((if ((((((s1.Taps.length:Int) == 0) && (s1.Factor == 0)) && (s1.Shift == 0)) && ((s1.Num.e0 == s1.Num.e0) && ((s1.Num.e1 == 0) && ((s1.Num.e2 == 0) && true)))) && ((s1.Den.e0 == s1.Den.e0) && ((s1.Den.e1 == 0) && ((s1.Den.e2 == 0) && true))))=true then
 (Y4 s1.Num.e0 1 1048576).bind fun rv393=>
 some rv393
 else
 some false)).bind fun c390=>
 ((if c390=true then
 (Y4 s1.Den.e0 1 1048576).bind fun rv412=>
 some rv412
 else
 some false)).bind fun c409=>
 some c409
 else
 (if (s1.Kind == 1)=true then
 ((if ((((s1.Taps.length:Int) == 0) && (s1.Factor == 0)) && (s1.Shift == 0))=true then
 (V3 ([s1.Num.e0,s1.Num.e1,s1.Num.e2]:List Int)).bind fun rv578=>
 some rv578
 else
 some false)).bind fun c574=>
 ((if c574=true then
 (V3 ([s1.Den.e0,s1.Den.e1,s1.Den.e2]:List Int)).bind fun rv598=>
 some rv598
 else
 some false)).bind fun c595=>
 some (c595 && (s1.Den.e0 != 0))
 else
 (if (s1.Kind == 2)=true then
 ((if (((s1.Num.e0 == 0) && ((s1.Num.e1 == 0) && ((s1.Num.e2 == 0) && true))) && ((s1.Den.e0 == 0) && ((s1.Den.e1 == 0) && ((s1.Den.e2 == 0) && true))))=true then
 (Y4 (s1.Taps.length:Int) 1 128).bind fun rv719=>
 some rv719
 else
 some false)).bind fun c716=>
 ((if c716=true then
 (V3 s1.Taps).bind fun rv738=>
 some rv738
 else
 some false)).bind fun c735=>
 ((if c735=true then
 (a1o s1.Taps).bind fun rv757=>
 some (rv757 != 0)
 else
 some false)).bind fun c754=>
 ((if c754=true then
 (Y4 s1.Factor 1 64).bind fun rv776=>
 some rv776
 else
 some false)).bind fun c773=>
 ((if c773=true then
 (Y4 s1.Shift 0 40).bind fun rv795=>
 some rv795
 else
 some false)).bind fun c792=>
 some c792
 else
 some false)))
def O8 (s1:Stage):Option Bool:=
 (O4 s1).bind fun rv7=>
 some (!rv7)
def Y9 (sv85:(Int × Int)) (n192:Int):Option ((Int × Int) ⊕ Int):=
 some (Sum.inl (n192,(w64 (sv85.2+1))))
def a0a (l1:(List Stage)) (sv85:(Int × Int)):Option ((Int × Int) ⊕ Int):=
 (if (decide (sv85.2<(l1.length:Int)))=true then
 (ix l1 sv85.2).bind fun x195=>
 (if (x195.Kind != 2)=true then
 Y9 sv85 sv85.1
 else
 (some (w64 (sv85.1 * x195.Factor))).bind fun n214=>
 (if (decide (64<n214))=true then
 some (Sum.inr 0)
 else
 Y9 sv85 n214))
 else
 Option.map Sum.inr (some sv85.1))
def a2X (l1:(List Stage)):Option Int:=
 o5 (a0a l1) (1,0)
def U9 (r1:Response):Option Bool:=
 ((if (decide (8<(r1.Stages.length:Int)))=true then
 some true
 else
 (A7 r1.Stages O8).bind fun rv18=>
 some rv18)).bind fun c15=>
 (if c15=true then
 some false
 else
 (a2X r1.Stages).bind fun rv28=>
 some (decide (0<rv28)))
def a2o (n1:Int) (low2:Int) (high3:Int):Option Bool:=
 some ((decide (low2≤n1)) && (decide (n1≤high3)))
def Q7 (e1:Epoch):Option Bool:=
 ((if (((decide (0≤e1.From)) && (decide (e1.From<e1.To))) && (decide (e1.To≤9007199254740992)))=true then
 (a6o e1.Rate).bind fun rv21=>
 some rv21
 else
 some false)).bind fun c18=>
 ((if c18=true then
 (U9 e1.Response).bind fun rv40=>
 some rv40
 else
 some false)).bind fun c37=>
 ((if c37=true then
 (a2o e1.Position.X (-1048576) 1048576).bind fun rv59=>
 some rv59
 else
 some false)).bind fun c56=>
 ((if c56=true then
 (a2o e1.Position.Y (-1048576) 1048576).bind fun rv78=>
 some rv78
 else
 some false)).bind fun c75=>
 ((if c75=true then
 (a2o e1.Position.Z (-16384) 1048576).bind fun rv97=>
 some rv97
 else
 some false)).bind fun c94=>
 some c94
def a0G (l1:(List Epoch)) (sv121:Int):Option (Int ⊕ Bool):=
 (if (decide (sv121<(l1.length:Int)))=true then
 (ix l1 sv121).bind fun x279=>
 (Q7 x279).bind fun rv296=>
 (if (!rv296)=true then
 some true
 else
 (if (decide (0<sv121))=true then
 (ix l1 (w64 (sv121 - 1))).bind fun x299=>
 some (decide (x279.From<x299.To))
 else
 some false).bind fun c309=>
 some c309).bind fun c310=>
 (if c310=true then
 some (Sum.inr false)
 else
 some (Sum.inl (w64 (sv121+1))))
 else
 Option.map Sum.inr ((a2o (l1.length:Int) 1 32).bind fun rv365=>
 some rv365))
def a4e (l1:(List Epoch)):Option Bool:=
 o5 (a0G l1) (0)
def cmp_isNaN_string (x1:ByteArray):Option Bool:=
 some (!(x1.toList == x1.toList))
def Q4 (x1:ByteArray) (y2:ByteArray):Option Int:=
 (cmp_isNaN_string x1).bind fun rv4=>
 (cmp_isNaN_string y2).bind fun rv12=>
 (if rv4=true then
 (if rv12=true then
 some 0
 else
 some (-1))
 else
 (if rv12=true then
 some 1
 else
 (if (Op.bytesLess x1.toList y2.toList)=true then
 some (-1)
 else
 (if (!((Op.bytesLess x1.toList y2.toList) || (x1.toList == y2.toList)))=true then
 some 1
 else
 some 0))))
def a4l (vals1:(List Int)) (sv55:Int):Option (Int ⊕ Int):=
 (if (decide (sv55<(vals1.length:Int)))=true then
 (ix vals1 sv55).bind fun x125=>
 (if (x125 != 0)=true then
 some (Sum.inr x125)
 else
 some (Sum.inl (w64 (sv55+1))))
 else
 Option.map Sum.inr (some 0))
def a6d (vals1:(List Int)):Option Int:=
 o5 (a4l vals1) (0)
def V4 (a1:SourceID) (b2:SourceID):Option Int:=
 (Q4 a1.Network b2.Network).bind fun rv6=>
 (Q4 a1.Station b2.Station).bind fun rv8=>
 (Q4 a1.Location b2.Location).bind fun rv10=>
 (Q4 a1.Channel b2.Channel).bind fun rv12=>
 (a6d ([rv6,rv8,rv10,rv12]:List Int)).bind fun rv16=>
 some rv16
def a1h (inv1:Inventory) (sv137:Int):Option (Int ⊕ Bool):=
 (if (decide (sv137<(inv1.Channels.length:Int)))=true then
 (ix inv1.Channels sv137).bind fun x315=>
 (a3T x315.Source).bind fun rv332=>
 (if (!rv332)=true then
 some true
 else
 (a4e x315.Epochs).bind fun rv334=>
 some (!rv334)).bind fun c335=>
 (if c335=true then
 some true
 else
 (if (decide (0<sv137))=true then
 (ix inv1.Channels (w64 (sv137 - 1))).bind fun x338=>
 (V4 x338.Source x315.Source).bind fun rv349=>
 some (decide (0≤rv349))
 else
 some false).bind fun c350=>
 some c350).bind fun c351=>
 (if c351=true then
 some (Sum.inr false)
 else
 some (Sum.inl (w64 (sv137+1))))
 else
 Option.map Sum.inr (some (decide ((inv1.Channels.length:Int)≤128))))
def V8 (inv1:Inventory):Option Bool:=
 o5 (a1h inv1) (0)
def A8 (s1_1:(List Stage)) (s2_5:(List Stage)) (eq9:Stage→Stage→Option Bool) (sv153:Int):Option (Int ⊕ Bool):=
 (if (decide (sv153<(s1_1.length:Int)))=true then
 (ix s1_1 sv153).bind fun x339=>
 (ix s2_5 sv153).bind fun x357=>
 (eq9 x339 x357).bind fun rv374=>
 (if (!rv374)=true then
 some (Sum.inr false)
 else
 some (Sum.inl (w64 (sv153+1))))
 else
 Option.map Sum.inr (some true))
def G7 (s1_1:(List Stage)) (s2_5:(List Stage)) (eq9:Stage→Stage→Option Bool):Option Bool:=
 (if ((s1_1.length:Int) != (s2_5.length:Int))=true then
 some false
 else
 o5 (A8 s1_1 s2_5 eq9) (0))
def a0A (s1_1:(List Int)) (s2_5:(List Int)) (sv103:Int):Option (Int ⊕ Bool):=
 (if (decide (sv103<(s1_1.length:Int)))=true then
 (ix s1_1 sv103).bind fun x229=>
 (ix s2_5 sv103).bind fun x242=>
 (if (x229 != x242)=true then
 some (Sum.inr false)
 else
 some (Sum.inl (w64 (sv103+1))))
 else
 Option.map Sum.inr (some true))
def a0i (s1_1:(List Int)) (s2_5:(List Int)):Option Bool:=
 (if ((s1_1.length:Int) != (s2_5.length:Int))=true then
 some false
 else
 o5 (a0A s1_1 s2_5) (0))
def V6 (x1:Stage) (y5:Stage):Option Bool:=
 ((if (((x1.Kind == y5.Kind) && ((x1.Num.e0 == y5.Num.e0) && ((x1.Num.e1 == y5.Num.e1) && ((x1.Num.e2 == y5.Num.e2) && true)))) && ((x1.Den.e0 == y5.Den.e0) && ((x1.Den.e1 == y5.Den.e1) && ((x1.Den.e2 == y5.Den.e2) && true))))=true then
 (a0i x1.Taps y5.Taps).bind fun rv25=>
 some rv25
 else
 some false)).bind fun c22=>
 some ((c22 && (x1.Factor == y5.Factor)) && (x1.Shift == y5.Shift))
def a2J (a1:Response) (b5:Response):Option Bool:=
 (G7 a1.Stages b5.Stages V6).bind fun rv12=>
 some rv12
def X5 (a1:Epoch) (b5:Epoch):Option Bool:=
 ((if ((((a1.From == b5.From) && (a1.To == b5.To)) && ((a1.Rate.Num == b5.Rate.Num) && ((a1.Rate.Den == b5.Rate.Den) && true))) && ((a1.Position.X == b5.Position.X) && ((a1.Position.Y == b5.Position.Y) && ((a1.Position.Z == b5.Position.Z) && true))))=true then
 (a2J a1.Response b5.Response).bind fun rv26=>
 some rv26
 else
 some false)).bind fun c23=>
 some c23
def a4x (e1:Epoch):Option Bool:=
 (X5 e1 (⟨0,0,(⟨0,0⟩:Rate),(⟨0,0,0⟩:Position),(⟨([]:List Stage)⟩:Response)⟩:Epoch)).bind fun rv7=>
 some rv7
def a3O (inv1:Inventory) (c5:Change):Option Bool:=
 (V8 inv1).bind fun rv12=>
 ((if (!rv12)=true then
 some true
 else
 (a3T c5.Source).bind fun rv31=>
 some (!rv31))).bind fun c28=>
 (if c28=true then
 some false
 else
 (if (c5.Kind == 0)=true then
 (Q7 c5.Epoch).bind fun rv98=>
 some (rv98 && (c5.From == c5.Epoch.From))
 else
 (if (c5.Kind == 1)=true then
 (a4x c5.Epoch).bind fun rv126=>
 some rv126
 else
 (if (c5.Kind == 2)=true then
 (Q7 c5.Epoch).bind fun rv144=>
 some rv144
 else
 some false))))
def K6 (s1:(List Channel)):Option (List Channel):=
 (R5 88 ([]:List Channel) s1).bind fun l11=>
 some l11
def O1 (s1:(List Epoch)):Option (List Epoch):=
 (R5 80 ([]:List Epoch) s1).bind fun l11=>
 some l11
def O3 (s1:(List Stage)):Option (List Stage):=
 (R5 96 ([]:List Stage) s1).bind fun l11=>
 some l11
def a0h (s1:(List Int)):Option (List Int):=
 (R5 8 ([]:List Int) s1).bind fun l11=>
 some l11
def Y2 (rv8:(List Stage)) (sv19:((List Stage) × Int)):Option (((List Stage) × Int) ⊕ (List Stage)):=
 (if (decide (sv19.2<(rv8.length:Int)))=true then
 (ix sv19.1 sv19.2).bind fun x207=>
 (a0h x207.Taps).bind fun rv223=>
 (ix sv19.1 sv19.2).bind fun x230=>
 (a3Q sv19.1 sv19.2 (⟨x230.Kind,x230.Num,x230.Den,rv223,x230.Factor,x230.Shift⟩:Stage)).bind fun l242=>
 some (Sum.inl (l242,(w64 (sv19.2+1))))
 else
 some (Sum.inr sv19.1))
def X4 (e1:Epoch):Option Epoch:=
 (O3 e1.Response.Stages).bind fun rv8=>
 (o5 (Y2 rv8) (rv8,0)).bind fun e157=>
 some (⟨e1.From,e1.To,e1.Rate,e1.Position,(⟨e157⟩:Response)⟩:Epoch)
def a0F (rv8:(List Epoch)) (sv19:((List Epoch) × Int)):Option (((List Epoch) × Int) ⊕ (List Epoch)):=
 (if (decide (sv19.2<(rv8.length:Int)))=true then
 (ix sv19.1 sv19.2).bind fun x211=>
 (X4 x211).bind fun rv228=>
 (ix sv19.1 sv19.2).bind fun x235=>
 (a3Q sv19.1 sv19.2 rv228).bind fun l247=>
 some (Sum.inl (l247,(w64 (sv19.2+1))))
 else
 some (Sum.inr sv19.1))
def a0Q (c1:Channel):Option Channel:=
 (O1 c1.Epochs).bind fun rv8=>
 (o5 (a0F rv8) (rv8,0)).bind fun e160=>
 some (⟨c1.Source,e160⟩:Channel)
def a1R (rv8:(List Channel)) (sv19:((List Channel) × Int)):Option (((List Channel) × Int) ⊕ (List Channel)):=
 (if (decide (sv19.2<(rv8.length:Int)))=true then
 (ix sv19.1 sv19.2).bind fun x211=>
 (a0Q x211).bind fun rv228=>
 (ix sv19.1 sv19.2).bind fun x235=>
 (a3Q sv19.1 sv19.2 rv228).bind fun l247=>
 some (Sum.inl (l247,(w64 (sv19.2+1))))
 else
 some (Sum.inr sv19.1))
def a0P (inv1:Inventory):Option Inventory:=
 (K6 inv1.Channels).bind fun rv8=>
 (o5 (a1R rv8) (rv8,0)).bind fun e160=>
 some (⟨e160⟩:Inventory)
def E8 (i179:Int) (j180:Int):Option ((Int × Int) ⊕ Int):=
 some (Sum.inl (i179,j180))
def E9 (x1:(List Channel)) (target5:SourceID) (cmp6:Channel→SourceID→Option Int) (sv14:(Int × Int)):Option ((Int × Int) ⊕ Int):=
 (if (decide (sv14.1<sv14.2))=true then
 (shrM .u64 (IntKind.u64.wrap (w64 (sv14.1+sv14.2))) 1).bind fun shr148=>
 (some (w64 shr148)).bind fun h150=>
 (ix x1 h150).bind fun x153=>
 (cmp6 x153 target5).bind fun rv169=>
 (if (decide (rv169<0))=true then
 (some (w64 (h150+1))).bind fun i183=>
 E8 i183 sv14.2
 else
 E8 sv14.1 h150)
 else
 some (Sum.inr sv14.1))
def F6 (x1:(List Channel)) (target5:SourceID) (cmp6:Channel→SourceID→Option Int):Option (Int × Bool):=
 (some (x1.length:Int)).bind fun n13=>
 (o5 (E9 x1 target5 cmp6) (0,n13)).bind fun e113=>
 (if (decide (e113<n13))=true then
 (ix x1 e113).bind fun x187=>
 (cmp6 x187 target5).bind fun rv203=>
 some (rv203 == 0)
 else
 some false).bind fun c204=>
 some (e113,c204)
def U6 (c1:Channel) (s5:SourceID):Option Int:=
 (V4 c1.Source s5).bind fun rv9=>
 some rv9
def a3P (inv1:Inventory) (s5:SourceID):Option (Int × Bool):=
 (F6 inv1.Channels s5 U6).bind fun rv9=>
 some (rv9.1,rv9.2)
def O5 (s1:(List Epoch)) (f5:Epoch→Option Bool) (sv90:Int):Option (Int ⊕ Int):=
 (if (decide (sv90<(s1.length:Int)))=true then
 (ix s1 sv90).bind fun x200=>
 (f5 x200).bind fun rv216=>
 (if rv216=true then
 some (Sum.inr sv90)
 else
 some (Sum.inl (w64 (sv90+1))))
 else
 Option.map Sum.inr (some (-1)))
def H6 (s1:(List Epoch)) (f5:Epoch→Option Bool):Option Int:=
 o5 (O5 s1 f5) (0)
def a2v (e1:Epoch) (x5:Int):Option Bool:=
 some (e1.From == x5)
def a6x (l1:(List Epoch)) (from5:Int):Option Int:=
 (H6 l1 (fun y0=>a2v y0 from5)).bind fun rv8=>
 some rv8
def Q5 (s1:(List Epoch)) (i6:Int) (j7:Int):Option (List Epoch):=
 (D8 s1 i6 j7).bind fun l12=>
 (if (i6 == j7)=true then
 some s1
 else
 (some (s1.length:Int)).bind fun oldlen16=>
 (D8 s1 0 i6).bind fun l19=>
 (D8 s1 j7 (s1.length:Int)).bind fun l22=>
 (some (l19 ++ l22 ++ s1.drop (l19 ++ l22).length)).bind fun l27=>
 (D8 l27 ((l19 ++ l22).length:Int) oldlen16).bind fun l31=>
 (some (I1 l27 ((l19 ++ l22).length:Int) oldlen16 (List.replicate l31.length ((⟨0,0,(⟨0,0⟩:Rate),(⟨0,0,0⟩:Position),(⟨([]:List Stage)⟩:Response)⟩:Epoch):Epoch)))).bind fun l34=>
 (D8 l34 0 ((l19 ++ l22).length:Int)).bind fun l39=>
 some l39)
def I6 (s1:(List Epoch)) (f5:Epoch→Option Bool):Option Bool:=
 (H6 s1 f5).bind fun rv11=>
 some (decide (0≤rv11))
def a1W (x1:Epoch) (x5:Epoch):Option Bool:=
 some (decide ((max x1.From x5.From)<(min x1.To x5.To)))
def L8 (x1:(List Epoch)) (cmp6:Epoch→Epoch→Option Int):Option (List Epoch):=
 b3d x1 cmp6
def V7 (a1:Epoch) (b5:Epoch):Option Int:=
 (some (w64 (a1.From - b5.From))).bind fun x12=>
 some x12
def a4w (l1:(List Epoch)) (e6:Epoch):Option ((List Epoch) × Bool):=
 (I6 l1 (fun y0=>a1W y0 e6)).bind fun rv12=>
 (if rv12=true then
 some (([]:List Epoch),false)
 else
 (X4 e6).bind fun rv22=>
 (R5 80 l1 ([rv22]:List Epoch)).bind fun l37=>
 (L8 l37 V7).bind fun rv42=>
 some (rv42,true))
def J9 (s1:(List Channel)) (i6:Int) (j7:Int):Option (List Channel):=
 (D8 s1 i6 j7).bind fun l12=>
 (if (i6 == j7)=true then
 some s1
 else
 (some (s1.length:Int)).bind fun oldlen16=>
 (D8 s1 0 i6).bind fun l19=>
 (D8 s1 j7 (s1.length:Int)).bind fun l22=>
 (some (l19 ++ l22 ++ s1.drop (l19 ++ l22).length)).bind fun l27=>
 (D8 l27 ((l19 ++ l22).length:Int) oldlen16).bind fun l31=>
 (some (I1 l27 ((l19 ++ l22).length:Int) oldlen16 (List.replicate l31.length ((⟨(⟨ByteArray.empty,ByteArray.empty,ByteArray.empty,ByteArray.empty⟩:SourceID),([]:List Epoch)⟩:Channel):Channel)))).bind fun l34=>
 (D8 l34 0 ((l19 ++ l22).length:Int)).bind fun l39=>
 some l39)
def K4 (s1:(List Channel)) (i6:Int) (v7:(List Channel)):Option ((List Channel) × (List Channel)):=
 (D8 s1 i6 (s1.length:Int)).bind fun l16=>
 (some (v7.length:Int)).bind fun m18=>
 (if (m18 == 0)=true then
 some (s1,v7)
 else
 (some (s1.length:Int)).bind fun n22=>
 (if (i6 == n22)=true then
 (R5 88 s1 v7).bind fun l31=>
 some (l31,v7)
 else
 (D8 s1 0 i6).bind fun l74=>
 (appZ 88 ((⟨(⟨ByteArray.empty,ByteArray.empty,ByteArray.empty,ByteArray.empty⟩:SourceID),([]:List Epoch)⟩:Channel):Channel) l74 (w64 ((w64 (n22+m18)) - i6))).bind fun l76=>
 (D8 l76 i6 (l76.length:Int)).bind fun l84=>
 (some (I1 l76 i6 (l76.length:Int) v7)).bind fun l85=>
 (D8 l85 (w64 (i6+m18)) (l85.length:Int)).bind fun l96=>
 (D8 s1 i6 (s1.length:Int)).bind fun l101=>
 (some (I1 l85 (w64 (i6+m18)) (l85.length:Int) l101)).bind fun l102=>
 some (l102,v7)))
def a0w (l113:(List Epoch)) (x237:(List Channel)):Option (Inventory × Int):=
 (if ((decide (128<(x237.length:Int))) || (decide (32<(l113.length:Int))))=true then
 some ((⟨([]:List Channel)⟩:Inventory),8)
 else
 some ((⟨x237⟩:Inventory),0))
def a0x (l113:(List Epoch)) (x298:(List Channel)):Option (Inventory × Int):=
 a0w l113 x298
def a0v (c5:Change) (rv23:Inventory) (rv36:(Int × Bool)) (l113:(List Epoch)):Option (Inventory × Int):=
 (if ((l113.length:Int) == 0)=true then
 (J9 rv23.Channels rv36.1 (w64 (rv36.1+1))).bind fun rv243=>
 a0w l113 rv243
 else
 (if rv36.2=true then
 (ix rv23.Channels rv36.1).bind fun x302=>
 (a3Q rv23.Channels rv36.1 (⟨x302.Source,l113⟩:Channel)).bind fun l314=>
 a0x l113 l314
 else
 (K4 rv23.Channels rv36.1 ([(⟨c5.Source,l113⟩:Channel)]:List Channel)).bind fun rv322=>
 a0x l113 rv322.1))
def a0u (c5:Change) (rv23:Inventory) (rv36:(Int × Bool)) (l94:(List Epoch)):Option (Inventory × Int):=
 (if (c5.Kind != 1)=true then
 (a4w l94 c5.Epoch).bind fun rv340=>
 (if (!rv340.2)=true then
 some ((⟨([]:List Channel)⟩:Inventory),11)
 else
 a0v c5 rv23 rv36 rv340.1)
 else
 a0v c5 rv23 rv36 l94)
def P7 (c5:Change) (rv23:Inventory) (rv36:(Int × Bool)) (l67:(List Epoch)):Option (Inventory × Int):=
 (if (c5.Kind != 0)=true then
 (a6x l67 c5.From).bind fun rv355=>
 (if (decide (rv355<0))=true then
 some ((⟨([]:List Channel)⟩:Inventory),6)
 else
 (Q5 l67 rv355 (w64 (rv355+1))).bind fun rv365=>
 a0u c5 rv23 rv36 rv365)
 else
 a0u c5 rv23 rv36 l67)
def M0 (inv1:Inventory) (c5:Change):Option (Inventory × Int):=
 (a3O inv1 c5).bind fun rv13=>
 (if (!rv13)=true then
 some ((⟨([]:List Channel)⟩:Inventory),1)
 else
 (a0P inv1).bind fun rv23=>
 (a3P rv23 c5.Source).bind fun rv36=>
 (if rv36.2=true then
 (ix rv23.Channels rv36.1).bind fun x379=>
 P7 c5 rv23 rv36 x379.Epochs
 else
 P7 c5 rv23 rv36 ([]:List Epoch)))
def I5 (sv23:(List Channel)):Option (List Channel):=
 some sv23
def K3 (n1:Int):Option (List Channel):=
 (if (decide (n1<0))=true then
 none
 else
 (some (w64 (n1 - (w64 (((0:Nat):Int) - (([]:List Channel).length:Int)))))).bind fun n5=>
 (if (decide (0<n5))=true then
 (D8 ([]:List Channel) 0 ((0:Nat):Int)).bind fun l28=>
 (b0r 88 ((⟨(⟨ByteArray.empty,ByteArray.empty,ByteArray.empty,ByteArray.empty⟩:SourceID),([]:List Epoch)⟩:Channel):Channel) n5).bind fun l30=>
 (D8 l30 0 (([]:List Channel).length:Int)).bind fun l36=>
 I5 l36
 else
 I5 ([]:List Channel)))
def F8 (slices1:(List (List Channel))) (sv5:(Int × Int)):Option ((Int × Int) ⊕ Int):=
 (if (decide (sv5.2<(slices1.length:Int)))=true then
 (ix slices1 sv5.2).bind fun x100=>
 (some (w64 (sv5.1+(x100.length:Int)))).bind fun size116=>
 (if (decide (size116<0))=true then
 none
 else
 some (Sum.inl (size116,(w64 (sv5.2+1)))))
 else
 some (Sum.inr sv5.1))
def F9 (slices1:(List (List Channel))) (sv132:((List Channel) × Int)):Option (((List Channel) × Int) ⊕ (List Channel)):=
 (if (decide (sv132.2<(slices1.length:Int)))=true then
 (ix slices1 sv132.2).bind fun x244=>
 (R5 88 sv132.1 x244).bind fun l260=>
 some (Sum.inl (l260,(w64 (sv132.2+1))))
 else
 some (Sum.inr sv132.1))
def J8 (slices1:(List (List Channel))):Option (List Channel):=
 (o5 (F8 slices1) (0,0)).bind fun e74=>
 (K3 e74).bind fun rv121=>
 (o5 (F9 slices1) (rv121,0)).bind fun e213=>
 some e213
def J4 (s1:(List SourceID)):Option (List SourceID):=
 (R5 64 ([]:List SourceID) s1).bind fun l11=>
 some l11
def N9 (x1:(List SourceID)) (cmp6:SourceID→SourceID→Option Int):Option (List SourceID):=
 a7p x1 cmp6
def M3 (sv1662:((List SourceID) × Int × Int)) (sv1912:(List SourceID)) (k1913:Int):Option (((List SourceID) × Int × Int) ⊕ ((List SourceID) × Int)):=
 (some (w64 (sv1662.2.2+1))).bind fun k2_1915=>
 some (Sum.inl (sv1912,k1913,k2_1915))
def a0C (sv628:Int) (l1661:(List SourceID)) (sv1662:((List SourceID) × Int × Int)):Option (((List SourceID) × Int × Int) ⊕ ((List SourceID) × Int)):=
 (if (decide (sv1662.2.2<(l1661.length:Int)))=true then
 (ixV sv1662.1 sv628 l1661.length sv1662.2.2).bind fun x1875=>
 (ixV sv1662.1 sv628 l1661.length (w64 (sv1662.2.2 - 1))).bind fun x1883=>
 (if (!((x1875.Network == x1883.Network) && ((x1875.Station == x1883.Station) && ((x1875.Location == x1883.Location) && ((x1875.Channel == x1883.Channel) && true)))))=true then
 (ixV sv1662.1 sv628 l1661.length sv1662.2.2).bind fun x1924=>
 (ix sv1662.1 sv1662.2.1).bind fun x1927=>
 (a3Q sv1662.1 sv1662.2.1 x1924).bind fun l1935=>
 (some (w64 (sv1662.2.1+1))).bind fun k1940=>
 M3 sv1662 l1935 k1940
 else
 M3 sv1662 sv1662.1 sv1662.2.1)
 else
 some (Sum.inr (sv1662.1,sv1662.2.1)))
def a0X (s1:(List SourceID)) (sv628:Int):Option (Int ⊕ (List SourceID)):=
 (if (decide (sv628<(s1.length:Int)))=true then
 (ix s1 sv628).bind fun x1456=>
 (ix s1 (w64 (sv628 - 1))).bind fun x1469=>
 (if ((x1456.Network == x1469.Network) && ((x1456.Station == x1469.Station) && ((x1456.Location == x1469.Location) && ((x1456.Channel == x1469.Channel) && true))))=true then
 (D8 s1 sv628 (s1.length:Int)).bind fun l1661=>
 (o5 (a0C sv628 l1661) (s1,sv628,1)).bind fun e1817=>
 (D8 e1817.1 e1817.2 (e1817.1.length:Int)).bind fun l1946=>
 (some (I1 e1817.1 e1817.2 (e1817.1.length:Int) (List.replicate l1946.length ((⟨ByteArray.empty,ByteArray.empty,ByteArray.empty,ByteArray.empty⟩:SourceID):SourceID)))).bind fun l1947=>
 (D8 l1947 0 e1817.2).bind fun l1956=>
 some (Sum.inr l1956)
 else
 (some (w64 (sv628+1))).bind fun k1960=>
 some (Sum.inl k1960))
 else
 Option.map Sum.inr (some s1))
def O0 (s1:(List SourceID)):Option (List SourceID):=
 (if (decide ((s1.length:Int)<2))=true then
 some s1
 else
 o5 (a0X s1) (1))
def a5u (l1:(List SourceID)):Option (List SourceID):=
 (J4 l1).bind fun rv6=>
 (N9 rv6 V4).bind fun rv18=>
 (O0 rv18).bind fun rv31=>
 some rv31
def a3z (inv1:Inventory) (s5:SourceID) (sv110:Int):Option (Int ⊕ (Channel × Bool)):=
 (if (decide (sv110<(inv1.Channels.length:Int)))=true then
 (ix inv1.Channels sv110).bind fun x248=>
 (if ((x248.Source.Network == s5.Network) && ((x248.Source.Station == s5.Station) && ((x248.Source.Location == s5.Location) && ((x248.Source.Channel == s5.Channel) && true))))=true then
 (a0Q x248).bind fun rv279=>
 some (Sum.inr (rv279,true))
 else
 some (Sum.inl (w64 (sv110+1))))
 else
 Option.map Sum.inr (some ((⟨(⟨ByteArray.empty,ByteArray.empty,ByteArray.empty,ByteArray.empty⟩:SourceID),([]:List Epoch)⟩:Channel),false)))
def a2c (inv1:Inventory) (s5:SourceID):Option (Channel × Bool):=
 o5 (a3z inv1 s5) (0)
def K7 (sv23:(List Epoch)):Option (List Epoch):=
 some sv23
def N8 (n1:Int):Option (List Epoch):=
 (if (decide (n1<0))=true then
 none
 else
 (some (w64 (n1 - (w64 (((0:Nat):Int) - (([]:List Epoch).length:Int)))))).bind fun n5=>
 (if (decide (0<n5))=true then
 (D8 ([]:List Epoch) 0 ((0:Nat):Int)).bind fun l28=>
 (b0r 80 ((⟨0,0,(⟨0,0⟩:Rate),(⟨0,0,0⟩:Position),(⟨([]:List Stage)⟩:Response)⟩:Epoch):Epoch) n5).bind fun l30=>
 (D8 l30 0 (([]:List Epoch).length:Int)).bind fun l36=>
 K7 l36
 else
 K7 ([]:List Epoch)))
def G9 (slices1:(List (List Epoch))) (sv5:(Int × Int)):Option ((Int × Int) ⊕ Int):=
 (if (decide (sv5.2<(slices1.length:Int)))=true then
 (ix slices1 sv5.2).bind fun x100=>
 (some (w64 (sv5.1+(x100.length:Int)))).bind fun size116=>
 (if (decide (size116<0))=true then
 none
 else
 some (Sum.inl (size116,(w64 (sv5.2+1)))))
 else
 some (Sum.inr sv5.1))
def H5 (slices1:(List (List Epoch))) (sv132:((List Epoch) × Int)):Option (((List Epoch) × Int) ⊕ (List Epoch)):=
 (if (decide (sv132.2<(slices1.length:Int)))=true then
 (ix slices1 sv132.2).bind fun x244=>
 (R5 80 sv132.1 x244).bind fun l260=>
 some (Sum.inl (l260,(w64 (sv132.2+1))))
 else
 some (Sum.inr sv132.1))
def N7 (slices1:(List (List Epoch))):Option (List Epoch):=
 (o5 (G9 slices1) (0,0)).bind fun e74=>
 (N8 e74).bind fun rv121=>
 (o5 (H5 slices1) (rv121,0)).bind fun e213=>
 some e213
def a3N (a1:Epoch) (b5:Epoch):Option Bool:=
 ((if (((a1.Rate.Num == b5.Rate.Num) && ((a1.Rate.Den == b5.Rate.Den) && true)) && ((a1.Position.X == b5.Position.X) && ((a1.Position.Y == b5.Position.Y) && ((a1.Position.Z == b5.Position.Z) && true))))=true then
 (a2J a1.Response b5.Response).bind fun rv24=>
 some rv24
 else
 some false)).bind fun c21=>
 some c21
def K9 (s1:(List Span)):Option (List Span):=
 (R5 16 ([]:List Span) s1).bind fun l11=>
 some l11
def O9 (s1:(List Span)) (f5:Span→Option Bool) (sv78:Int):Option (Int ⊕ Int):=
 (if (decide (sv78<(s1.length:Int)))=true then
 (ix s1 sv78).bind fun x172=>
 (f5 x172).bind fun rv184=>
 (if rv184=true then
 some (Sum.inr sv78)
 else
 some (Sum.inl (w64 (sv78+1))))
 else
 Option.map Sum.inr (some (-1)))
def M4 (s1:(List Span)) (f5:Span→Option Bool):Option Int:=
 o5 (O9 s1 f5) (0)
def J5 (sv23:((List Span) × Int × Int)) (sv248:(List Span)) (i249:Int):Option (((List Span) × Int × Int) ⊕ ((List Span) × Int)):=
 (some (w64 (sv23.2.2+1))).bind fun j251=>
 some (Sum.inl (sv248,i249,j251))
def O7 (del6:Span→Option Bool) (sv23:((List Span) × Int × Int)):Option (((List Span) × Int × Int) ⊕ ((List Span) × Int)):=
 (if (decide (sv23.2.2<(sv23.1.length:Int)))=true then
 (ix sv23.1 sv23.2.2).bind fun x211=>
 (del6 x211).bind fun rv224=>
 (if (!rv224)=true then
 (ix sv23.1 sv23.2.1).bind fun x255=>
 (a3Q sv23.1 sv23.2.1 x211).bind fun l263=>
 (some (w64 (sv23.2.1+1))).bind fun i268=>
 J5 sv23 l263 i268
 else
 J5 sv23 sv23.1 sv23.2.1)
 else
 some (Sum.inr (sv23.1,sv23.2.1)))
def L6 (s1:(List Span)) (del6:Span→Option Bool):Option (List Span):=
 (M4 s1 del6).bind fun rv12=>
 (if (rv12 == (-1))=true then
 some s1
 else
 (some (w64 (rv12+1))).bind fun j22=>
 (o5 (O7 del6) (s1,rv12,j22)).bind fun e163=>
 (D8 e163.1 e163.2 (e163.1.length:Int)).bind fun l274=>
 (some (I1 e163.1 e163.2 (e163.1.length:Int) (List.replicate l274.length ((⟨0,0⟩:Span):Span)))).bind fun l275=>
 (D8 l275 0 e163.2).bind fun l284=>
 some l284)
def b1I (s1:Span):Option Bool:=
 some (decide (s1.From<s1.To))
def a2Y (s1:Span):Option Bool:=
 (b1I s1).bind fun rv4=>
 some (!rv4)
def Q6 (x1:(List Span)) (cmp6:Span→Span→Option Int):Option (List Span):=
 a7p x1 cmp6
def cmp_isNaN_int (x1:Int):Option Bool:=
 some (x1 != x1)
def cmp_Compare_int (x1:Int) (y2:Int):Option Int:=
 (cmp_isNaN_int x1).bind fun rv4=>
 (cmp_isNaN_int y2).bind fun rv12=>
 (if rv4=true then
 (if rv12=true then
 some 0
 else
 some (-1))
 else
 (if rv12=true then
 some 1
 else
 (if (decide (x1<y2))=true then
 some (-1)
 else
 (if (decide (y2<x1))=true then
 some 1
 else
 some 0))))
def a1I (a1:Span) (b2:Span):Option Int:=
 (cmp_Compare_int a1.From b2.From).bind fun rv6=>
 some rv6
def a3X (sv42:((List Span) × Int)) (out428:(List Span)):Option (((List Span) × Int) ⊕ (List Span)):=
 some (Sum.inl (out428,(w64 (sv42.2+1))))
def a2l (rv30:(List Span)) (sv42:((List Span) × Int)):Option (((List Span) × Int) ⊕ (List Span)):=
 (if (decide (sv42.2<(rv30.length:Int)))=true then
 (ix rv30 sv42.2).bind fun x344=>
 (some (sv42.1.length:Int)).bind fun n357=>
 (if (decide (0<n357))=true then
 (ix sv42.1 (w64 (n357 - 1))).bind fun x360=>
 some (decide (x344.From≤x360.To))
 else
 some false).bind fun c371=>
 (if c371=true then
 (ix sv42.1 (w64 (n357 - 1))).bind fun x432=>
 (ix sv42.1 (w64 (n357 - 1))).bind fun x445=>
 (a3Q sv42.1 (w64 (n357 - 1)) (⟨x445.From,(max x432.To x344.To)⟩:Span)).bind fun l453=>
 a3X sv42 l453
 else
 (R5 16 sv42.1 ([x344]:List Span)).bind fun l460=>
 a3X sv42 l460)
 else
 some (Sum.inr sv42.1))
def a4F (l1:(List Span)):Option (List Span):=
 (K9 l1).bind fun rv6=>
 (L6 rv6 a2Y).bind fun rv18=>
 (Q6 rv18 a1I).bind fun rv30=>
 (o5 (a2l rv30) (([]:List Span),0)).bind fun e264=>
 some e264
def a2M (sv701:((List Span) × Int × Int)) (out869:(List Span)) (atv870:Int):Option (((List Span) × Int × Int) ⊕ ((List Span) × Int)):=
 some (Sum.inl (out869,atv870,(w64 (sv701.2.2+1))))
def a2N (sv701:((List Span) × Int × Int)) (x873:Span) (out900:(List Span)):Option (((List Span) × Int × Int) ⊕ ((List Span) × Int)):=
 (some (max sv701.2.1 x873.To)).bind fun atv902=>
 a2M sv701 out900 atv902
def a1N (rv10:(List Span)) (x689:Span) (sv701:((List Span) × Int × Int)):Option (((List Span) × Int × Int) ⊕ ((List Span) × Int)):=
 (if (decide (sv701.2.2<(rv10.length:Int)))=true then
 (ix rv10 sv701.2.2).bind fun x873=>
 (if ((decide (x873.To≤sv701.2.1)) || (decide (x689.To≤x873.From)))=true then
 a2M sv701 sv701.1 sv701.2.1
 else
 (if (decide (sv701.2.1<x873.From))=true then
 (R5 16 sv701.1 ([(⟨sv701.2.1,x873.From⟩:Span)]:List Span)).bind fun l907=>
 a2N sv701 x873 l907
 else
 a2N sv701 x873 sv701.1))
 else
 some (Sum.inr (sv701.1,sv701.2.1)))
def a2O (sv33:((List Span) × Int)) (out924:(List Span)):Option (((List Span) × Int) ⊕ (List Span)):=
 some (Sum.inl (out924,(w64 (sv33.2+1))))
def a1M (rv10:(List Span)) (rv22:(List Span)) (sv33:((List Span) × Int)):Option (((List Span) × Int) ⊕ (List Span)):=
 (if (decide (sv33.2<(rv22.length:Int)))=true then
 (ix rv22 sv33.2).bind fun x689=>
 (o5 (a1N rv10 x689) (sv33.1,x689.From,0)).bind fun e827=>
 (if (decide (e827.2<x689.To))=true then
 (R5 16 e827.1 ([(⟨e827.2,x689.To⟩:Span)]:List Span)).bind fun l929=>
 a2O sv33 l929
 else
 a2O sv33 e827.1)
 else
 some (Sum.inr sv33.1))
def a6z (a1:(List Span)) (b5:(List Span)):Option (List Span):=
 (a4F b5).bind fun rv10=>
 (a4F a1).bind fun rv22=>
 (o5 (a1M rv10 rv22) (([]:List Span),0)).bind fun e522=>
 some e522
def a1r (rv12:(List Epoch)) (sv24:((List Span) × Int)):Option (((List Span) × Int) ⊕ (List Span)):=
 (if (decide (sv24.2<(rv12.length:Int)))=true then
 (ix rv12 sv24.2).bind fun x148=>
 (R5 16 sv24.1 ([(⟨x148.From,x148.To⟩:Span)]:List Span)).bind fun l167=>
 some (Sum.inl (l167,(w64 (sv24.2+1))))
 else
 some (Sum.inr sv24.1))
def a1q (sv832:((List Span) × Int)) (same1048:(List Span)):Option (((List Span) × Int) ⊕ (List Span)):=
 some (Sum.inl (same1048,(w64 (sv832.2+1))))
def a1t (b5:(List Epoch)) (x816:Epoch) (sv832:((List Span) × Int)):Option (((List Span) × Int) ⊕ (List Span)):=
 (if (decide (sv832.2<(b5.length:Int)))=true then
 (ix b5 sv832.2).bind fun x1012=>
 (a3N x816 x1012).bind fun rv1029=>
 (if rv1029=true then
 (R5 16 sv832.1 ([(⟨(max x816.From x1012.From),(min x816.To x1012.To)⟩:Span)]:List Span)).bind fun l1053=>
 a1q sv832 l1053
 else
 a1q sv832 sv832.1)
 else
 some (Sum.inr sv832.1))
def a1s (a1:(List Epoch)) (b5:(List Epoch)) (sv172:((List Span) × Int)):Option (((List Span) × Int) ⊕ (List Span)):=
 (if (decide (sv172.2<(a1.length:Int)))=true then
 (ix a1 sv172.2).bind fun x816=>
 (o5 (a1t b5 x816) (sv172.1,0)).bind fun e964=>
 some (Sum.inl (e964,(w64 (sv172.2+1))))
 else
 some (Sum.inr sv172.1))
def V9 (a1:(List Epoch)) (b5:(List Epoch)):Option (List Span):=
 (N7 ([a1,b5]:List (List Epoch))).bind fun rv12=>
 (o5 (a1r rv12) (([]:List Span),0)).bind fun e114=>
 (o5 (a1s a1 b5) (([]:List Span),0)).bind fun e652=>
 (a6z e114 e652).bind fun rv1061=>
 some rv1061
def a0s (rv43:(List Channel)) (sv55:((List SourceID) × Int)):Option (((List SourceID) × Int) ⊕ (List SourceID)):=
 (if (decide (sv55.2<(rv43.length:Int)))=true then
 (ix rv43 sv55.2).bind fun x179=>
 (R5 64 sv55.1 ([x179.Source]:List SourceID)).bind fun l198=>
 some (Sum.inl (l198,(w64 (sv55.2+1))))
 else
 some (Sum.inr sv55.1))
def a0r (sv216:((List Affected) × Int)) (out577:(List Affected)):Option (((List Affected) × Int) ⊕ (List Affected)):=
 some (Sum.inl (out577,(w64 (sv216.2+1))))
def a0t (a1:Inventory) (b5:Inventory) (rv204:(List SourceID)) (sv216:((List Affected) × Int)):Option (((List Affected) × Int) ⊕ (List Affected)):=
 (if (decide (sv216.2<(rv204.length:Int)))=true then
 (ix rv204 sv216.2).bind fun x512=>
 (a2c a1 x512).bind fun rv525=>
 (a2c b5 x512).bind fun rv538=>
 (V9 rv525.1.Epochs rv538.1.Epochs).bind fun rv551=>
 (if (decide (0<(rv551.length:Int)))=true then
 (R5 88 sv216.1 ([(⟨x512,rv551⟩:Affected)]:List Affected)).bind fun l583=>
 a0r sv216 l583
 else
 a0r sv216 sv216.1)
 else
 some (Sum.inr sv216.1))
def a0q (a1:Inventory) (b5:Inventory):Option (List Affected):=
 (V8 a1).bind fun rv12=>
 ((if (!rv12)=true then
 some true
 else
 (V8 b5).bind fun rv31=>
 some (!rv31))).bind fun c28=>
 (if c28=true then
 some ([]:List Affected)
 else
 (J8 ([a1.Channels,b5.Channels]:List (List Channel))).bind fun rv43=>
 (o5 (a0s rv43) (([]:List SourceID),0)).bind fun e145=>
 (a5u e145).bind fun rv204=>
 (o5 (a0t a1 b5 rv204) (([]:List Affected),0)).bind fun e435=>
 some e435)
def a4q (a1:(List Span)) (b5:(List Span)) (sv109:Int):Option (Int ⊕ Bool):=
 (if (decide (sv109<(a1.length:Int)))=true then
 (ix a1 sv109).bind fun x241=>
 (ix b5 sv109).bind fun x254=>
 (if (!((x241.From == x254.From) && ((x241.To == x254.To) && true)))=true then
 some (Sum.inr false)
 else
 (some (w64 (sv109+1))).bind fun i270=>
 some (Sum.inl i270))
 else
 Option.map Sum.inr (some true))
def a4g (a1:(List Span)) (b5:(List Span)):Option Bool:=
 (if ((a1.length:Int) != (b5.length:Int))=true then
 some false
 else
 o5 (a4q a1 b5) (0))
def a4Y:Option Bool:=
 (M0 (⟨([]:List Channel)⟩:Inventory) (⟨0,(⟨(⟨#[65]⟩:ByteArray),(⟨#[66]⟩:ByteArray),ByteArray.empty,(⟨#[72,72,90]⟩:ByteArray)⟩:SourceID),10,(⟨10,20,(⟨100,1⟩:Rate),(⟨0,0,0⟩:Position),(⟨([]:List Stage)⟩:Response)⟩:Epoch)⟩:Change)).bind fun rv4=>
 (M0 rv4.1 (⟨2,(⟨(⟨#[65]⟩:ByteArray),(⟨#[66]⟩:ByteArray),ByteArray.empty,(⟨#[72,72,90]⟩:ByteArray)⟩:SourceID),10,(⟨10,25,(⟨100,1⟩:Rate),(⟨0,0,0⟩:Position),(⟨([]:List Stage)⟩:Response)⟩:Epoch)⟩:Change)).bind fun rv17=>
 (a0q rv4.1 rv17.1).bind fun rv31=>
 (if (((rv4.2 == 0) && (rv17.2 == 0)) && ((rv31.length:Int) == 1))=true then
 (ix rv31 0).bind fun x45=>
 some ((x45.Source.Network == (⟨#[65]⟩:ByteArray)) && ((x45.Source.Station == (⟨#[66]⟩:ByteArray)) && ((x45.Source.Location == ByteArray.empty) && ((x45.Source.Channel == (⟨#[72,72,90]⟩:ByteArray)) && true))))
 else
 some false).bind fun c60=>
 (if c60=true then
 (ix rv31 0).bind fun x63=>
 (a4g x63.Spans ([(⟨20,25⟩:Span)]:List Span)).bind fun rv81=>
 some rv81
 else
 some false).bind fun c82=>
 some c82
def a9r (l1:(List Int)):Option Dice:=
 some (⟨l1,0⟩:Dice)
def a1S (d1:Dice) (x30:Int):Option (Int × Dice):=
 some (x30,(⟨d1.L,(w64 (d1.At+1))⟩:Dice))
def u6 (d1:Dice) (n6:Int):Option (Int × Dice):=
 (if ((decide ((d1.L.length:Int)≤d1.At)) || (decide (n6<1)))=true then
 some (0,d1)
 else
 (ix d1.L d1.At).bind fun x12=>
 (remM x12 n6).bind fun rem24=>
 (if (decide (rem24<0))=true then
 (some (w64 (rem24+n6))).bind fun x33=>
 a1S d1 x33
 else
 a1S d1 rem24))
def L9 (d1:Dice) (l6:(List Int)):Option (Int × Dice):=
 (u6 d1 (l6.length:Int)).bind fun rv11=>
 (ix l6 rv11.1).bind fun x23=>
 some (x23,rv11.2)
def a2p (d1:Dice):Option (SourceID × Dice):=
 (u6 d1 3).bind fun rv10=>
 (ix ([(⟨#[71,82]⟩:ByteArray),(⟨#[88]⟩:ByteArray),(⟨#[55,65]⟩:ByteArray)]:List ByteArray) rv10.1).bind fun x16=>
 (u6 rv10.2 4).bind fun rv26=>
 (ix ([(⟨#[70,85,82]⟩:ByteArray),(⟨#[65]⟩:ByteArray),(⟨#[65,66,67,68,69]⟩:ByteArray),(⟨#[70,85]⟩:ByteArray)]:List ByteArray) rv26.1).bind fun x32=>
 (u6 rv26.2 3).bind fun rv42=>
 (ix ([(⟨#[]⟩:ByteArray),(⟨#[48,48]⟩:ByteArray),(⟨#[49,48]⟩:ByteArray)]:List ByteArray) rv42.1).bind fun x48=>
 (u6 rv42.2 3).bind fun rv58=>
 (ix ([(⟨#[72,72,90]⟩:ByteArray),(⟨#[72,72,78]⟩:ByteArray),(⟨#[66,72,90]⟩:ByteArray)]:List ByteArray) rv58.1).bind fun x64=>
 some ((⟨x16,x32,x48,x64⟩:SourceID),rv58.2)
def Q9 (n1:Int) (lo2:Int) (hi3:Int):Option Bool:=
 some ((decide (lo2≤n1)) && (decide (n1≤hi3)))
def a8T (sv3:(Int × Int)):Option ((Int × Int) ⊕ Int):=
 (if (sv3.2 != 0)=true then
 (remM sv3.1 sv3.2).bind fun rem29=>
 some (Sum.inl (sv3.2,rem29))
 else
 some (Sum.inr sv3.1))
def a5O (a1:Int) (b2:Int):Option Int:=
 (o5 (a8T) (a1,b2)).bind fun e21=>
 some e21
def a7C (num1:Int) (den2:Int):Option (Rate × Int):=
 (Q9 num1 1 4096).bind fun rv5=>
 ((if (!rv5)=true then
 some true
 else
 (Q9 den2 1 4096).bind fun rv24=>
 some (!rv24))).bind fun c21=>
 (if c21=true then
 some ((⟨0,0⟩:Rate),2)
 else
 (a5O num1 den2).bind fun rv34=>
 (quoM .i64 num1 rv34).bind fun quo42=>
 (quoM .i64 den2 rv34).bind fun quo44=>
 some ((⟨quo42,quo44⟩:Rate),0))
def a3B (d1:Dice):Option (Rate × Dice):=
 (L9 d1 ([1,3,20,100,40,4096,7]:List Int)).bind fun rv10=>
 (L9 rv10.2 ([1,1,1,3,7,4096]:List Int)).bind fun rv24=>
 (a7C rv10.1 rv24.1).bind fun rv36=>
 some (rv36.1,rv24.2)
def a1k (sv429:((List Int) × Int × (List Int) × Int)):Option (((List Int) × Int × (List Int) × Int) ⊕ ((List Int) × Int × (List Int))):=
 (if (decide (0<sv429.2.2.2))=true then
 (u6 (⟨sv429.1,sv429.2.1⟩:Dice) 4).bind fun rv564=>
 (R5 8 ([rv564.1]:List Int) sv429.2.2.1).bind fun l577=>
 (R5 8 l577 ([rv564.1]:List Int)).bind fun l584=>
 (some (w64 (sv429.2.2.2 - 1))).bind fun i589=>
 some (Sum.inl (rv564.2.L,rv564.2.At,l584,i589))
 else
 some (Sum.inr (sv429.1,sv429.2.1,sv429.2.2.1)))
def a3c (rv395:(Int × Dice)) (rv407:(Int × Dice)) (rv592:(Int × Dice)) (x614:(List Int)):Option (Stage × Dice):=
 some ((⟨2,(⟨0,0,0⟩:(Arr3 Int)),(⟨0,0,0⟩:(Arr3 Int)),x614,rv395.1,rv407.1⟩:Stage),rv592.2)
def a1A (d1:Dice):Option (Stage × Dice):=
 (u6 d1 3).bind fun rv8=>
 (if (rv8.1 == 0)=true then
 (u6 rv8.2 9).bind fun rv212=>
 (u6 rv212.2 9).bind fun rv223=>
 some ((⟨0,(⟨(w64 (1+rv212.1)),0,0⟩:(Arr3 Int)),(⟨(w64 (1+rv223.1)),0,0⟩:(Arr3 Int)),([]:List Int),0,0⟩:Stage),rv223.2)
 else
 (if (rv8.1 == 1)=true then
 (u6 rv8.2 9).bind fun rv308=>
 (u6 rv308.2 9).bind fun rv319=>
 (u6 rv319.2 3).bind fun rv330=>
 (L9 rv330.2 ([1,2,(-3),1048576]:List Int)).bind fun rv343=>
 (u6 rv343.2 9).bind fun rv355=>
 (L9 rv355.2 ([0,1,1048576]:List Int)).bind fun rv368=>
 some ((⟨1,(⟨(w64 (rv308.1 - 4)),(w64 (rv319.1 - 4)),rv330.1⟩:(Arr3 Int)),(⟨rv343.1,(w64 (rv355.1 - 4)),rv368.1⟩:(Arr3 Int)),([]:List Int),0,0⟩:Stage),rv368.2)
 else
 (u6 rv8.2 4).bind fun rv380=>
 (L9 rv380.2 ([1,1,2,5]:List Int)).bind fun rv395=>
 (u6 rv395.2 5).bind fun rv407=>
 (u6 rv407.2 3).bind fun rv419=>
 (o5 (a1k) (rv419.2.L,rv419.2.At,([(w64 (1+rv380.1))]:List Int),rv419.1)).bind fun e529=>
 (u6 (⟨e529.1,e529.2.1⟩:Dice) 6).bind fun rv592=>
 (if (rv592.1 == 0)=true then
 (R5 8 e529.2.2 ([3]:List Int)).bind fun l619=>
 a3c rv395 rv407 rv592 l619
 else
 a3c rv395 rv407 rv592 e529.2.2)))
def U1 (sv19:((List Int) × Int × (List Stage) × Int × Int)) (rv174:(Stage × Dice)) (n194:Int):Option (((List Int) × Int × (List Stage) × Int × Int) ⊕ ((List Int) × Int × (List Stage))):=
 (R5 96 sv19.2.2.1 ([rv174.1]:List Stage)).bind fun l199=>
 (some (w64 (sv19.2.2.2.2 - 1))).bind fun i204=>
 some (Sum.inl (rv174.2.L,rv174.2.At,l199,n194,i204))
def P8 (sv19:((List Int) × Int × (List Stage) × Int × Int)):Option (((List Int) × Int × (List Stage) × Int × Int) ⊕ ((List Int) × Int × (List Stage))):=
 (if (decide (0<sv19.2.2.2.2))=true then
 (a1A (⟨sv19.1,sv19.2.1⟩:Dice)).bind fun rv174=>
 (if (rv174.1.Kind == 2)=true then
 (some (w64 (sv19.2.2.2.1 * rv174.1.Factor))).bind fun n207=>
 (if (decide (64<n207))=true then
 some (Sum.inr (rv174.2.L,rv174.2.At,sv19.2.2.1))
 else
 U1 sv19 rv174 n207)
 else
 U1 sv19 rv174 sv19.2.2.2.1)
 else
 some (Sum.inr (sv19.1,sv19.2.1,sv19.2.2.1)))
def U5 (d1:Dice):Option (Response × Dice):=
 (u6 d1 4).bind fun rv9=>
 (o5 (P8) (rv9.2.L,rv9.2.At,([]:List Stage),1,rv9.1)).bind fun e134=>
 some ((⟨e134.2.2⟩:Response),(⟨e134.1,e134.2.1⟩:Dice))
def a3b (fromv19:Int) (rv21:(Rate × Dice)) (rv33:(Int × Dice)) (rv40:(Int × Dice)) (rv45:(Int × Dice)) (rv52:(Int × Dice)) (x169:(List Int)) (x170:Int) (x171:(List Stage)):Option (Epoch × Dice):=
 some ((⟨fromv19,(w64 (fromv19+(w64 (1000 * (w64 (1+rv33.1)))))),rv21.1,(⟨rv40.1,rv45.1,rv52.1⟩:Position),(⟨x171⟩:Response)⟩:Epoch),(⟨x169,x170⟩:Dice))
def a2Q (d1:Dice):Option (Epoch × Dice):=
 (u6 d1 20).bind fun rv8=>
 (some (w64 (1000000000000+(w64 (1000 * rv8.1))))).bind fun fromv19=>
 (a3B rv8.2).bind fun rv21=>
 (u6 rv21.2 8).bind fun rv33=>
 (L9 rv33.2 ([0,500,(-1048576),1048576]:List Int)).bind fun rv40=>
 (u6 rv40.2 1000).bind fun rv45=>
 (L9 rv45.2 ([0,(-200),(-16384)]:List Int)).bind fun rv52=>
 (u6 rv52.2 2).bind fun rv137=>
 (if (rv137.1 == 0)=true then
 (U5 rv137.2).bind fun rv174=>
 a3b fromv19 rv21 rv33 rv40 rv45 rv52 rv174.2.L rv174.2.At rv174.1.Stages
 else
 a3b fromv19 rv21 rv33 rv40 rv45 rv52 rv137.2.L rv137.2.At ([]:List Stage))
def a4r (r1:Response) (sv8:((List Stage) × Int)):Option (((List Stage) × Int) ⊕ (List Stage)):=
 (if (decide (sv8.2<(r1.Stages.length:Int)))=true then
 (ix r1.Stages sv8.2).bind fun x162=>
 (R5 8 ([]:List Int) x162.Taps).bind fun l179=>
 (R5 96 sv8.1 ([(⟨x162.Kind,x162.Num,x162.Den,l179,x162.Factor,x162.Shift⟩:Stage)]:List Stage)).bind fun l187=>
 (some (w64 (sv8.2+1))).bind fun i192=>
 some (Sum.inl (l187,i192))
 else
 some (Sum.inr sv8.1))
def a8p (r1:Response):Option Response:=
 (o5 (a4r r1) (([]:List Stage),0)).bind fun e122=>
 some (⟨e122⟩:Response)
def T9 (e1:Epoch):Option Epoch:=
 (a8p e1.Response).bind fun rv8=>
 some (⟨e1.From,e1.To,e1.Rate,e1.Position,rv8⟩:Epoch)
def a0H (rv15:(Int × Dice)) (x297:(List Int)) (x298:Int) (x299:ByteArray) (x300:ByteArray) (x301:ByteArray) (x302:ByteArray) (x303:Int) (x304:Int) (x305:Int) (x306:Int) (x307:Int) (x308:Int) (x309:Int) (x310:Int) (x311:(List Stage)):Option (Change × Dice):=
 some ((⟨rv15.1,(⟨x299,x300,x301,x302⟩:SourceID),x303,(⟨x304,x305,(⟨x306,x307⟩:Rate),(⟨x308,x309,x310⟩:Position),(⟨x311⟩:Response)⟩:Epoch)⟩:Change),(⟨x297,x298⟩:Dice))
def a0I (rv15:(Int × Dice)) (x320:Channel) (x522:(List Int)) (x523:Int) (x524:Int) (x525:Int) (x526:Int) (x527:Int) (x528:Int) (x529:Int) (x530:Int) (x531:Int) (x532:(List Stage)):Option (Change × Dice):=
 a0H rv15 x522 x523 x320.Source.Network x320.Source.Station x320.Source.Location x320.Source.Channel x524 x525 x526 x527 x528 x529 x530 x531 x532
def X7 (rv15:(Int × Dice)) (x320:Channel) (x541:Epoch) (x702:(List Int)) (x703:Int) (x704:Int) (x705:Int) (x706:Int) (x707:Int) (x708:Int) (x709:Int) (x710:Int) (x711:(List Stage)):Option (Change × Dice):=
 a0I rv15 x320 x702 x703 x541.From x704 x705 x706 x707 x708 x709 x710 x711
def a0J (rv15:(Int × Dice)) (x320:Channel) (x541:Epoch) (rv714:Epoch) (x844:(List Int)) (x845:Int) (x846:Int) (x847:Int) (x848:(List Stage)):Option (Change × Dice):=
 X7 rv15 x320 x541 x844 x845 rv714.From x846 rv714.Rate.Num rv714.Rate.Den x847 rv714.Position.Y rv714.Position.Z x848
def a0K (rv15:(Int × Dice)) (x320:Channel) (x541:Epoch) (rv714:Epoch) (x932:(List Int)) (x933:Int) (x934:Int) (x935:(List Stage)):Option (Change × Dice):=
 a0J rv15 x320 x541 rv714 x932 x933 rv714.To x934 x935
def X8 (rv15:(Int × Dice)) (x320:Channel) (x541:Epoch) (rv714:Epoch) (x959:(List Int)) (x960:Int) (x961:(List Stage)):Option (Change × Dice):=
 a0K rv15 x320 x541 rv714 x959 x960 rv714.Position.X x961
def X6 (inv6:Inventory) (rv15:(Int × Dice)) (rv27:(SourceID × Dice)) (x60:(List Int)) (x61:Int) (x62:Int) (x63:Int) (x64:Int) (x65:Int) (x66:Int) (x67:Int) (x68:Int) (x69:Int) (x70:(List Stage)):Option (Change × Dice):=
 (some (inv6.Channels.length:Int)).bind fun n72=>
 ((if (decide (0<n72))=true then
 (u6 (⟨x60,x61⟩:Dice) 3).bind fun rv90=>
 some (rv90.2.L,rv90.2.At,(decide (0<rv90.1)))
 else
 some (x60,x61,false))).bind fun c85=>
 (if c85.2.2=true then
 (u6 (⟨c85.1,c85.2.1⟩:Dice) n72).bind fun rv314=>
 (ix inv6.Channels rv314.1).bind fun x320=>
 (if (rv15.1 != 0)=true then
 (u6 rv314.2 (x320.Epochs.length:Int)).bind fun rv535=>
 (ix x320.Epochs rv535.1).bind fun x541=>
 ((if (rv15.1 == 2)=true then
 (u6 rv535.2 3).bind fun rv605=>
 some (rv605.2.L,rv605.2.At,(decide (0<rv605.1)))
 else
 some (rv535.2.L,rv535.2.At,false))).bind fun c600=>
 (if c600.2.2=true then
 (T9 x541).bind fun rv714=>
 (u6 (⟨c600.1,c600.2.1⟩:Dice) 3).bind fun rv727=>
 (if (rv727.1 == 0)=true then
 (L9 rv727.2 ([(-1),500,3000]:List Int)).bind fun rv853=>
 a0J rv15 x320 x541 rv714 rv853.2.L rv853.2.At (w64 (rv714.To+rv853.1)) rv714.Position.X rv714.Response.Stages
 else
 (if (rv727.1 == 1)=true then
 a0K rv15 x320 x541 rv714 rv727.2.L rv727.2.At 77 rv714.Response.Stages
 else
 (if (rv727.1 == 2)=true then
 (U5 rv727.2).bind fun rv964=>
 X8 rv15 x320 x541 rv714 rv964.2.L rv964.2.At rv964.1.Stages
 else
 X8 rv15 x320 x541 rv714 rv727.2.L rv727.2.At rv714.Response.Stages)))
 else
 X7 rv15 x320 x541 c600.1 c600.2.1 x63 x64 x65 x66 x67 x68 x69 x70)
 else
 a0I rv15 x320 rv314.2.L rv314.2.At x62 x63 x64 x65 x66 x67 x68 x69 x70)
 else
 a0H rv15 c85.1 c85.2.1 rv27.1.Network rv27.1.Station rv27.1.Location rv27.1.Channel x62 x63 x64 x65 x66 x67 x68 x69 x70)
def U4 (d1:Dice) (inv6:Inventory):Option (Change × Dice):=
 (L9 d1 ([0,0,1,2]:List Int)).bind fun rv15=>
 (a2p rv15.2).bind fun rv27=>
 (if (rv15.1 != 1)=true then
 (a2Q rv27.2).bind fun rv980=>
 X6 inv6 rv15 rv27 rv980.2.L rv980.2.At rv980.1.From rv980.1.From rv980.1.To rv980.1.Rate.Num rv980.1.Rate.Den rv980.1.Position.X rv980.1.Position.Y rv980.1.Position.Z rv980.1.Response.Stages
 else
 X6 inv6 rv15 rv27 rv27.2.L rv27.2.At 0 0 0 0 0 0 0 0 ([]:List Stage))
def a4o (s1:ByteArray) (lo2:Int) (hi3:Int) (sv111:Int):Option (Int ⊕ Bool):=
 (if (decide (sv111<(s1.size:Int)))=true then
 (a5x s1 sv111).bind fun c254=>
 ((if (decide (65≤c254))=true then
 (a5x s1 sv111).bind fun c261=>
 some (decide (c261≤90))
 else
 some false)).bind fun c258=>
 ((if c258=true then
 some true
 else
 (a5x s1 sv111).bind fun c275=>
 ((if (decide (48≤c275))=true then
 (a5x s1 sv111).bind fun c282=>
 some (decide (c282≤57))
 else
 some false)).bind fun c279=>
 some c279)).bind fun c272=>
 (if (!c272)=true then
 some (Sum.inr false)
 else
 (some (w64 (sv111+1))).bind fun i287=>
 some (Sum.inl i287))
 else
 Option.map Sum.inr (some ((decide (lo2≤(s1.size:Int))) && (decide ((s1.size:Int)≤hi3)))))
def a3d (s1:ByteArray) (lo2:Int) (hi3:Int):Option Bool:=
 o5 (a4o s1 lo2 hi3) (0)
def a4C (s1:SourceID):Option Bool:=
 (a3d s1.Network 1 2).bind fun rv4=>
 ((if rv4=true then
 (a3d s1.Station 1 5).bind fun rv23=>
 some rv23
 else
 some false)).bind fun c20=>
 ((if c20=true then
 ((if (s1.Location.toList == (⟨#[]⟩:ByteArray).toList)=true then
 some true
 else
 (a3d s1.Location 2 2).bind fun rv64=>
 some rv64)).bind fun c61=>
 some c61
 else
 some false)).bind fun c50=>
 ((if c50=true then
 (a3d s1.Channel 3 3).bind fun rv83=>
 some rv83
 else
 some false)).bind fun c80=>
 some c80
def a0z (a1:ByteArray) (b2:ByteArray):Option Int:=
 (if (Op.bytesLess a1.toList b2.toList)=true then
 some (-1)
 else
 (if (!((Op.bytesLess a1.toList b2.toList) || (a1.toList == b2.toList)))=true then
 some 1
 else
 some 0))
def a2r (rv6:Int) (rv8:Int) (rv10:Int) (rv12:Int) (sv55:Int):Option (Int ⊕ Int):=
 (if (decide (sv55<4))=true then
 (ix ([rv6,rv8,rv10,rv12]:List Int) sv55).bind fun x80=>
 (if (x80 != 0)=true then
 some (Sum.inr x80)
 else
 some (Sum.inl (w64 (sv55+1))))
 else
 Option.map Sum.inr (some 0))
def a1K (a1:SourceID) (b2:SourceID):Option Int:=
 (a0z a1.Network b2.Network).bind fun rv6=>
 (a0z a1.Station b2.Station).bind fun rv8=>
 (a0z a1.Location b2.Location).bind fun rv10=>
 (a0z a1.Channel b2.Channel).bind fun rv12=>
 o5 (a2r rv6 rv8 rv10 rv12) (0)
def a5r (r1:Rate):Option Bool:=
 (Q9 r1.Num 1 4096).bind fun rv4=>
 ((if rv4=true then
 (Q9 r1.Den 1 4096).bind fun rv23=>
 some rv23
 else
 some false)).bind fun c20=>
 ((if c20=true then
 (a5O r1.Num r1.Den).bind fun rv42=>
 some (rv42 == 1)
 else
 some false)).bind fun c39=>
 some c39
def a2f (l1:(List Int)) (sv85:Int):Option (Int ⊕ Bool):=
 (if (decide (sv85<(l1.length:Int)))=true then
 (ix l1 sv85).bind fun x193=>
 (Q9 x193 (-1048576) 1048576).bind fun rv205=>
 (if (!rv205)=true then
 some (Sum.inr false)
 else
 (some (w64 (sv85+1))).bind fun i216=>
 some (Sum.inl i216))
 else
 Option.map Sum.inr (some true))
def a3p (l1:(List Int)):Option Bool:=
 o5 (a2f l1) (0)
def b0B (l1:(List Int)) (sv5:(Int × Int)):Option ((Int × Int) ⊕ Int):=
 (if (decide (sv5.2<(l1.length:Int)))=true then
 (ix l1 sv5.2).bind fun x86=>
 (some (w64 (sv5.1+x86))).bind fun n98=>
 (some (w64 (sv5.2+1))).bind fun i100=>
 some (Sum.inl (n98,i100))
 else
 some (Sum.inr sv5.1))
def a7b (l1:(List Int)):Option Int:=
 (o5 (b0B l1) (0,0)).bind fun e65=>
 some e65
def Y6 (s1:Stage):Option Bool:=
 (if (s1.Kind == 0)=true then
 ((if ((((s1.Taps.length:Int) == 0) && (s1.Factor == 0)) && (s1.Shift == 0))=true then
 (Q9 s1.Num.e0 1 1048576).bind fun rv399=>
 some rv399
 else
 some false)).bind fun c396=>
 ((if c396=true then
 (Q9 s1.Den.e0 1 1048576).bind fun rv418=>
 some rv418
 else
 some false)).bind fun c415=>
 some ((((c415 && (s1.Num.e1 == 0)) && (s1.Num.e2 == 0)) && (s1.Den.e1 == 0)) && (s1.Den.e2 == 0))
 else
 (if (s1.Kind == 1)=true then
 ((if ((((s1.Taps.length:Int) == 0) && (s1.Factor == 0)) && (s1.Shift == 0))=true then
 (a3p ([s1.Num.e0,s1.Num.e1,s1.Num.e2]:List Int)).bind fun rv590=>
 some rv590
 else
 some false)).bind fun c586=>
 ((if c586=true then
 (a3p ([s1.Den.e0,s1.Den.e1,s1.Den.e2]:List Int)).bind fun rv610=>
 some rv610
 else
 some false)).bind fun c607=>
 some (c607 && (s1.Den.e0 != 0))
 else
 (if (s1.Kind == 2)=true then
 ((if (((s1.Num.e0 == 0) && ((s1.Num.e1 == 0) && ((s1.Num.e2 == 0) && true))) && ((s1.Den.e0 == 0) && ((s1.Den.e1 == 0) && ((s1.Den.e2 == 0) && true))))=true then
 (Q9 (s1.Taps.length:Int) 1 128).bind fun rv731=>
 some rv731
 else
 some false)).bind fun c728=>
 ((if c728=true then
 (a3p s1.Taps).bind fun rv750=>
 some rv750
 else
 some false)).bind fun c747=>
 ((if c747=true then
 (a7b s1.Taps).bind fun rv769=>
 some (rv769 != 0)
 else
 some false)).bind fun c766=>
 ((if c766=true then
 (Q9 s1.Factor 1 64).bind fun rv788=>
 some rv788
 else
 some false)).bind fun c785=>
 ((if c785=true then
 (Q9 s1.Shift 0 40).bind fun rv807=>
 some rv807
 else
 some false)).bind fun c804=>
 some c804
 else
 some false)))
def a2e (sv188:(Int × Int)) (n487:Int):Option ((Int × Int) ⊕ Bool):=
 (some (w64 (sv188.2+1))).bind fun i489=>
 some (Sum.inl (n487,i489))
def a5d (r1:Response) (sv188:(Int × Int)):Option ((Int × Int) ⊕ Bool):=
 (if (decide (sv188.2<(r1.Stages.length:Int)))=true then
 (ix r1.Stages sv188.2).bind fun x432=>
 (Y6 x432).bind fun rv448=>
 (if (!rv448)=true then
 some (Sum.inr false)
 else
 (ix r1.Stages sv188.2).bind fun x460=>
 (if (x460.Kind == 2)=true then
 (ix r1.Stages sv188.2).bind fun x493=>
 (some (w64 (sv188.1 * x493.Factor))).bind fun n504=>
 (if (decide (64<n504))=true then
 some (Sum.inr false)
 else
 a2e sv188 n504)
 else
 a2e sv188 sv188.1))
 else
 Option.map Sum.inr (some (decide ((r1.Stages.length:Int)≤8))))
def a3o (r1:Response):Option Bool:=
 o5 (a5d r1) (1,0)
def a0S (e1:Epoch):Option Bool:=
 ((if (((decide (0≤e1.From)) && (decide (e1.From<e1.To))) && (decide (e1.To≤9007199254740992)))=true then
 (a5r e1.Rate).bind fun rv21=>
 some rv21
 else
 some false)).bind fun c18=>
 ((if c18=true then
 (a3o e1.Response).bind fun rv40=>
 some rv40
 else
 some false)).bind fun c37=>
 ((if c37=true then
 (Q9 e1.Position.X (-1048576) 1048576).bind fun rv59=>
 some rv59
 else
 some false)).bind fun c56=>
 ((if c56=true then
 (Q9 e1.Position.Y (-1048576) 1048576).bind fun rv78=>
 some rv78
 else
 some false)).bind fun c75=>
 ((if c75=true then
 (Q9 e1.Position.Z (-16384) 1048576).bind fun rv97=>
 some rv97
 else
 some false)).bind fun c94=>
 some c94
def a0l (sv608:Int) (x1412:Channel) (sv1709:Int):Option (Int ⊕ (Int ⊕ Bool)):=
 (if (decide (sv1709<(x1412.Epochs.length:Int)))=true then
 (ix x1412.Epochs sv1709).bind fun x1917=>
 (a0S x1917).bind fun rv1933=>
 (if (!rv1933)=true then
 some true
 else
 (if (decide (0<sv1709))=true then
 (ix x1412.Epochs sv1709).bind fun x1936=>
 (ix x1412.Epochs (w64 (sv1709 - 1))).bind fun x1948=>
 some (decide (x1936.From<x1948.To))
 else
 some false).bind fun c1958=>
 some c1958).bind fun c1959=>
 (if c1959=true then
 some (Sum.inr (Sum.inr false))
 else
 (some (w64 (sv1709+1))).bind fun k2039=>
 some (Sum.inl k2039))
 else
 Option.map Sum.inr ((some (w64 (sv608+1))).bind fun i2041=>
 some (Sum.inl i2041)))
def a3G (inv1:Inventory) (sv608:Int):Option (Int ⊕ Bool):=
 (if (decide (sv608<(inv1.Channels.length:Int)))=true then
 (ix inv1.Channels sv608).bind fun x1412=>
 (a4C x1412.Source).bind fun rv1429=>
 (if (!rv1429)=true then
 some true
 else
 (if (decide (0<sv608))=true then
 (ix inv1.Channels (w64 (sv608 - 1))).bind fun x1432=>
 (a1K x1432.Source x1412.Source).bind fun rv1443=>
 some (decide (0≤rv1443))
 else
 some false).bind fun c1444=>
 some c1444).bind fun c1445=>
 (if c1445=true then
 some true
 else
 (Q9 (x1412.Epochs.length:Int) 1 32).bind fun rv1447=>
 some (!rv1447)).bind fun c1448=>
 (if c1448=true then
 some (Sum.inr false)
 else
 o5 (a0l sv608 x1412) (0))
 else
 Option.map Sum.inr (some (decide ((inv1.Channels.length:Int)≤128))))
def a2g (inv1:Inventory):Option Bool:=
 o5 (a3G inv1) (0)
def a1l (a1:Stage) (b5:Stage) (sv116:Int):Option (Int ⊕ Bool):=
 (if (decide (sv116<(a1.Taps.length:Int)))=true then
 (ix a1.Taps sv116).bind fun x248=>
 (ix b5.Taps sv116).bind fun x261=>
 (if (x248 != x261)=true then
 some (Sum.inr false)
 else
 (some (w64 (sv116+1))).bind fun i277=>
 some (Sum.inl i277))
 else
 Option.map Sum.inr (some true))
def a2V (a1:Stage) (b5:Stage):Option Bool:=
 (if ((((((a1.Kind != b5.Kind) || (!((a1.Num.e0 == b5.Num.e0) && ((a1.Num.e1 == b5.Num.e1) && ((a1.Num.e2 == b5.Num.e2) && true))))) || (!((a1.Den.e0 == b5.Den.e0) && ((a1.Den.e1 == b5.Den.e1) && ((a1.Den.e2 == b5.Den.e2) && true))))) || (a1.Factor != b5.Factor)) || (a1.Shift != b5.Shift)) || ((a1.Taps.length:Int) != (b5.Taps.length:Int)))=true then
 some false
 else
 o5 (a1l a1 b5) (0))
def a4s (a1:Response) (b5:Response) (sv141:Int):Option (Int ⊕ Bool):=
 (if (decide (sv141<(a1.Stages.length:Int)))=true then
 (ix a1.Stages sv141).bind fun x313=>
 (ix b5.Stages sv141).bind fun x330=>
 (a2V x313 x330).bind fun rv346=>
 (if (!rv346)=true then
 some (Sum.inr false)
 else
 (some (w64 (sv141+1))).bind fun i358=>
 some (Sum.inl i358))
 else
 Option.map Sum.inr (some true))
def a6q (a1:Response) (b5:Response):Option Bool:=
 (if ((a1.Stages.length:Int) != (b5.Stages.length:Int))=true then
 some false
 else
 o5 (a4s a1 b5) (0))
def a0k (a1:Epoch) (b5:Epoch):Option Bool:=
 ((if ((((a1.From == b5.From) && (a1.To == b5.To)) && ((a1.Rate.Num == b5.Rate.Num) && ((a1.Rate.Den == b5.Rate.Den) && true))) && ((a1.Position.X == b5.Position.X) && ((a1.Position.Y == b5.Position.Y) && ((a1.Position.Z == b5.Position.Z) && true))))=true then
 (a6q a1.Response b5.Response).bind fun rv26=>
 some rv26
 else
 some false)).bind fun c23=>
 some c23
def a6u (e1:Epoch):Option Bool:=
 (a0k e1 (⟨0,0,(⟨0,0⟩:Rate),(⟨0,0,0⟩:Position),(⟨([]:List Stage)⟩:Response)⟩:Epoch)).bind fun rv7=>
 some rv7
def a6t (inv1:Inventory) (c5:Change):Option Bool:=
 (a2g inv1).bind fun rv12=>
 ((if (!rv12)=true then
 some true
 else
 (Q9 c5.Kind 0 2).bind fun rv31=>
 some (!rv31))).bind fun c28=>
 ((if c28=true then
 some true
 else
 (a4C c5.Source).bind fun rv50=>
 some (!rv50))).bind fun c47=>
 (if c47=true then
 some false
 else
 (if (c5.Kind == 1)=true then
 (a6u c5.Epoch).bind fun rv70=>
 some rv70
 else
 (a0S c5.Epoch).bind fun rv78=>
 some (rv78 && ((c5.Kind == 2) || (c5.From == c5.Epoch.From)))))
def a4u (inv1:Inventory) (sv8:((List Channel) × Int)) (sv922:((List Epoch) × Int)):Option (((List Epoch) × Int) ⊕ (List Epoch)):=
 (ix inv1.Channels sv8.2).bind fun x1115=>
 (if (decide (sv922.2<(x1115.Epochs.length:Int)))=true then
 (ix inv1.Channels sv8.2).bind fun x1172=>
 (ix x1172.Epochs sv922.2).bind fun x1184=>
 (T9 x1184).bind fun rv1200=>
 (R5 80 sv922.1 ([rv1200]:List Epoch)).bind fun l1208=>
 (some (w64 (sv922.2+1))).bind fun k1250=>
 some (Sum.inl (l1208,k1250))
 else
 some (Sum.inr sv922.1))
def a4t (inv1:Inventory) (sv8:((List Channel) × Int)):Option (((List Channel) × Int) ⊕ (List Channel)):=
 (if (decide (sv8.2<(inv1.Channels.length:Int)))=true then
 (ix inv1.Channels sv8.2).bind fun x906=>
 (o5 (a4u inv1 sv8) (([]:List Epoch),0)).bind fun e1108=>
 (R5 88 sv8.1 ([(⟨x906.Source,e1108⟩:Channel)]:List Channel)).bind fun l1256=>
 (some (w64 (sv8.2+1))).bind fun i1261=>
 some (Sum.inl (l1256,i1261))
 else
 some (Sum.inr sv8.1))
def a3e (inv1:Inventory):Option Inventory:=
 (o5 (a4t inv1) (([]:List Channel),0)).bind fun e680=>
 some (⟨e680⟩:Inventory)
def a4L (inv1:Inventory) (c5:Change) (sv511:Int) (sv1342:Int):Option (Int ⊕ (Int ⊕ (Int × Int))):=
 (ix inv1.Channels sv511).bind fun x1487=>
 (if (decide (sv1342<(x1487.Epochs.length:Int)))=true then
 (ix inv1.Channels sv511).bind fun x1534=>
 (ix x1534.Epochs sv1342).bind fun x1546=>
 (if (x1546.From == c5.From)=true then
 some (Sum.inr (Sum.inr (sv511,sv1342)))
 else
 (some (w64 (sv1342+1))).bind fun k1567=>
 some (Sum.inl k1567))
 else
 Option.map Sum.inr (some (Sum.inr (sv511,(-1)))))
def a5h (inv1:Inventory) (c5:Change) (sv511:Int):Option (Int ⊕ (Int × Int)):=
 (if (decide (sv511<(inv1.Channels.length:Int)))=true then
 (ix inv1.Channels sv511).bind fun x1179=>
 (if (!((x1179.Source.Network == c5.Source.Network) && ((x1179.Source.Station == c5.Source.Station) && ((x1179.Source.Location == c5.Source.Location) && ((x1179.Source.Channel == c5.Source.Channel) && true)))))=true then
 (some (w64 (sv511+1))).bind fun i1198=>
 some (Sum.inl i1198)
 else
 o5 (a4L inv1 c5 sv511) (0))
 else
 Option.map Sum.inr (some ((-1),(-1))))
def a5s (inv1:Inventory) (c5:Change):Option (Int × Int):=
 o5 (a5h inv1 c5) (0)
def a3J (l1:(List Epoch)) (e5:Epoch) (sv120:Int):Option (Int ⊕ Bool):=
 (if (decide (sv120<(l1.length:Int)))=true then
 (ix l1 sv120).bind fun x268=>
 (if (decide (x268.From<e5.To))=true then
 (ix l1 sv120).bind fun x285=>
 some (decide (e5.From<x285.To))
 else
 some false).bind fun c295=>
 (if c295=true then
 some (Sum.inr true)
 else
 (some (w64 (sv120+1))).bind fun i316=>
 some (Sum.inl i316))
 else
 Option.map Sum.inr (some false))
def a3I (l1:(List Epoch)) (e5:Epoch):Option Bool:=
 o5 (a3J l1 e5) (0)
def a6s (l1:(List Epoch)) (e5:Epoch) (sv10:Int):Option (Int ⊕ Int):=
 (if (decide (sv10<(l1.length:Int)))=true then
 (ix l1 sv10).bind fun x86=>
 some (decide (x86.From<e5.From))
 else
 some false).bind fun c101=>
 (if c101=true then
 (some (w64 (sv10+1))).bind fun k128=>
 some (Sum.inl k128)
 else
 some (Sum.inr sv10))
def a7D (l1:(List Epoch)) (e5:Epoch):Option (List Epoch):=
 (o5 (a6s l1 e5) (0)).bind fun e82=>
 (D8 l1 0 e82).bind fun l135=>
 (R5 80 ([]:List Epoch) l135).bind fun l137=>
 (T9 e5).bind fun rv142=>
 (R5 80 l137 ([rv142]:List Epoch)).bind fun l150=>
 (D8 l1 e82 (l1.length:Int)).bind fun l159=>
 (R5 80 l150 l159).bind fun l161=>
 some l161
def a5f (x184:(List Channel)):Option (Inventory × Int):=
 some ((⟨x184⟩:Inventory),0)
def a2h (c5:Change) (x336:(List Channel)) (i337:Int):Option (Inventory × Int):=
 (ix x336 i337).bind fun x340=>
 (a3I x340.Epochs c5.Epoch).bind fun rv356=>
 (if rv356=true then
 some ((⟨([]:List Channel)⟩:Inventory),11)
 else
 (ix x336 i337).bind fun x368=>
 (a7D x368.Epochs c5.Epoch).bind fun rv380=>
 (ix x336 i337).bind fun x387=>
 (a3Q x336 i337 (⟨x387.Source,rv380⟩:Channel)).bind fun l399=>
 ((if (decide (128<(l399.length:Int)))=true then
 some true
 else
 (ix l399 i337).bind fun x428=>
 some (decide (32<(x428.Epochs.length:Int))))).bind fun c424=>
 (if c424=true then
 some ((⟨([]:List Channel)⟩:Inventory),8)
 else
 some ((⟨l399⟩:Inventory),0)))
def a5g (c5:Change) (x106:(List Channel)) (sv443:Int):Option (Int ⊕ Int):=
 (if (decide (sv443<(x106.length:Int)))=true then
 (ix x106 sv443).bind fun x525=>
 (a1K x525.Source c5.Source).bind fun rv541=>
 some (decide (rv541<0))
 else
 some false).bind fun c542=>
 (if c542=true then
 (some (w64 (sv443+1))).bind fun i577=>
 some (Sum.inl i577)
 else
 some (Sum.inr sv443))
def a0T (c5:Change) (rv36:(Int × Int)) (x106:(List Channel)):Option (Inventory × Int):=
 (if (c5.Kind == 1)=true then
 (ix x106 rv36.1).bind fun x149=>
 (if ((x149.Epochs.length:Int) == 0)=true then
 (D8 x106 0 rv36.1).bind fun l190=>
 (D8 x106 (w64 (rv36.1+1)) (x106.length:Int)).bind fun l196=>
 (R5 88 l190 l196).bind fun l198=>
 a5f l198
 else
 a5f x106)
 else
 (if (decide (rv36.1<0))=true then
 (o5 (a5g c5 x106) (0)).bind fun e521=>
 (R5 88 x106 ([(⟨(⟨ByteArray.empty,ByteArray.empty,ByteArray.empty,ByteArray.empty⟩:SourceID),([]:List Epoch)⟩:Channel)]:List Channel)).bind fun l582=>
 (D8 l582 (w64 (e521+1)) (l582.length:Int)).bind fun l590=>
 (D8 l582 e521 (l582.length:Int)).bind fun l595=>
 (some (I1 l582 (w64 (e521+1)) (l582.length:Int) l595)).bind fun l596=>
 (ix l596 e521).bind fun x606=>
 (a3Q l596 e521 (⟨c5.Source,([]:List Epoch)⟩:Channel)).bind fun l622=>
 a2h c5 l622 e521
 else
 a2h c5 x106 rv36.1))
def a0p (inv1:Inventory) (c5:Change):Option (Inventory × Int):=
 (a6t inv1 c5).bind fun rv13=>
 (if (!rv13)=true then
 some ((⟨([]:List Channel)⟩:Inventory),1)
 else
 (a3e inv1).bind fun rv23=>
 (a5s rv23 c5).bind fun rv36=>
 (if (c5.Kind != 0)=true then
 (if (decide (rv36.2<0))=true then
 some ((⟨([]:List Channel)⟩:Inventory),6)
 else
 (ix rv23.Channels rv36.1).bind fun x631=>
 (D8 x631.Epochs 0 rv36.2).bind fun l651=>
 (R5 80 ([]:List Epoch) l651).bind fun l653=>
 (D8 x631.Epochs (w64 (rv36.2+1)) (x631.Epochs.length:Int)).bind fun l662=>
 (R5 80 l653 l662).bind fun l664=>
 (ix rv23.Channels rv36.1).bind fun x670=>
 (a3Q rv23.Channels rv36.1 (⟨x670.Source,l664⟩:Channel)).bind fun l682=>
 a0T c5 rv36 l682)
 else
 a0T c5 rv36 rv23.Channels))
def Y3 (sv20:((List Int) × Int × (List Channel) × Int)) (rv136:(Change × Dice)) (x227:(List Channel)):Option (((List Int) × Int × (List Channel) × Int) ⊕ ((List Int) × Int × (List Channel))):=
 (some (w64 (sv20.2.2.2 - 1))).bind fun i229=>
 some (Sum.inl (rv136.2.L,rv136.2.At,x227,i229))
def a1j (sv20:((List Int) × Int × (List Channel) × Int)):Option (((List Int) × Int × (List Channel) × Int) ⊕ ((List Int) × Int × (List Channel))):=
 (if (decide (0<sv20.2.2.2))=true then
 (U4 (⟨sv20.1,sv20.2.1⟩:Dice) (⟨sv20.2.2.1⟩:Inventory)).bind fun rv136=>
 (a0p (⟨sv20.2.2.1⟩:Inventory) rv136.1).bind fun rv145=>
 (if (rv145.2 == 0)=true then
 Y3 sv20 rv136 rv145.1.Channels
 else
 Y3 sv20 rv136 sv20.2.2.1)
 else
 some (Sum.inr (sv20.1,sv20.2.1,sv20.2.2.1)))
def X9 (d1:Dice) (n6:Int):Option (Inventory × Dice):=
 (u6 d1 (w64 (n6+1))).bind fun rv10=>
 (o5 (a1j) (rv10.2.L,rv10.2.At,([]:List Channel),rv10.1)).bind fun e106=>
 some ((⟨e106.2.2⟩:Inventory),(⟨e106.1,e106.2.1⟩:Dice))
def a5E (inv1:Inventory) (s5:SourceID) (sv185:Int):Option (Int ⊕ (Channel × Bool)):=
 (if (decide (sv185<(inv1.Channels.length:Int)))=true then
 (ix inv1.Channels sv185).bind fun x421=>
 (if ((x421.Source.Network == s5.Network) && ((x421.Source.Station == s5.Station) && ((x421.Source.Location == s5.Location) && ((x421.Source.Channel == s5.Channel) && true))))=true then
 (D8 inv1.Channels sv185 (w64 (sv185+1))).bind fun l479=>
 (a3e (⟨l479⟩:Inventory)).bind fun rv481=>
 (ix rv481.Channels 0).bind fun x494=>
 some (Sum.inr (x494,true))
 else
 (some (w64 (sv185+1))).bind fun i511=>
 some (Sum.inl i511))
 else
 Option.map Sum.inr (some ((⟨(⟨ByteArray.empty,ByteArray.empty,ByteArray.empty,ByteArray.empty⟩:SourceID),([]:List Epoch)⟩:Channel),false)))
def a6r (inv1:Inventory) (s5:SourceID):Option (Channel × Bool):=
 o5 (a5E inv1 s5) (0)
def a2R (sv5:((List Span) × Int)) (sorted716:(List Span)):Option (((List Span) × Int) ⊕ (List Span)):=
 (some (w64 (sv5.2+1))).bind fun i718=>
 some (Sum.inl (sorted716,i718))
def a2U (l1:(List Span)) (sv5:((List Span) × Int)) (sv745:Int):Option (Int ⊕ Int):=
 (if (decide (0<sv745))=true then
 (ix sv5.1 (w64 (sv745 - 1))).bind fun x833=>
 (ix l1 sv5.2).bind fun x846=>
 some (decide (x846.From<x833.From))
 else
 some false).bind fun c852=>
 (if c852=true then
 (some (w64 (sv745 - 1))).bind fun k883=>
 some (Sum.inl k883)
 else
 some (Sum.inr sv745))
def a2T (l1:(List Span)) (sv5:((List Span) × Int)):Option (((List Span) × Int) ⊕ (List Span)):=
 (if (decide (sv5.2<(l1.length:Int)))=true then
 (ix l1 sv5.2).bind fun x721=>
 (ix l1 sv5.2).bind fun x734=>
 (if (decide (x734.To≤x721.From))=true then
 a2R sv5 sv5.1
 else
 (some (sv5.1.length:Int)).bind fun k744=>
 (o5 (a2U l1 sv5) (k744)).bind fun e829=>
 (ix l1 sv5.2).bind fun x887=>
 (R5 16 sv5.1 ([x887]:List Span)).bind fun l896=>
 (D8 l896 (w64 (e829+1)) (l896.length:Int)).bind fun l904=>
 (D8 l896 e829 (l896.length:Int)).bind fun l909=>
 (some (I1 l896 (w64 (e829+1)) (l896.length:Int) l909)).bind fun l910=>
 (ix l1 sv5.2).bind fun x920=>
 (ix l910 e829).bind fun x928=>
 (a3Q l910 e829 x920).bind fun l940=>
 a2R sv5 l940)
 else
 some (Sum.inr sv5.1))
def a2S (sv945:((List Span) × Int)) (out1475:(List Span)):Option (((List Span) × Int) ⊕ (List Span)):=
 (some (w64 (sv945.2+1))).bind fun i1477=>
 some (Sum.inl (out1475,i1477))
def a1B (e539:(List Span)) (sv945:((List Span) × Int)):Option (((List Span) × Int) ⊕ (List Span)):=
 (if (decide (sv945.2<(e539.length:Int)))=true then
 (some (sv945.1.length:Int)).bind fun n1352=>
 (if (decide (0<n1352))=true then
 (ix e539 sv945.2).bind fun x1355=>
 (ix sv945.1 (w64 (n1352 - 1))).bind fun x1368=>
 some (decide (x1355.From≤x1368.To))
 else
 some false).bind fun c1379=>
 (if c1379=true then
 (ix sv945.1 (w64 (n1352 - 1))).bind fun x1481=>
 (ix e539 sv945.2).bind fun x1494=>
 (ix sv945.1 (w64 (n1352 - 1))).bind fun x1507=>
 (a3Q sv945.1 (w64 (n1352 - 1)) (⟨x1507.From,(max x1481.To x1494.To)⟩:Span)).bind fun l1515=>
 a2S sv945 l1515
 else
 (ix e539 sv945.2).bind fun x1521=>
 (R5 16 sv945.1 ([x1521]:List Span)).bind fun l1535=>
 a2S sv945 l1535)
 else
 some (Sum.inr sv945.1))
def a2t (l1:(List Span)):Option (List Span):=
 (o5 (a2T l1) (([]:List Span),0)).bind fun e539=>
 (o5 (a1B e539) (([]:List Span),0)).bind fun e1248=>
 some e1248
def a3D (sv1338:((List Span) × Int × Int)) (out1692:(List Span)) (fromv1693:Int):Option (((List Span) × Int × Int) ⊕ ((List Span) × Int)):=
 (some (w64 (sv1338.2.2+1))).bind fun k1695=>
 some (Sum.inl (out1692,fromv1693,k1695))
def a3E (rv22:(List Span)) (sv1338:((List Span) × Int × Int)) (out1782:(List Span)):Option (((List Span) × Int × Int) ⊕ ((List Span) × Int)):=
 (ix rv22 sv1338.2.2).bind fun x1785=>
 (some (max sv1338.2.1 x1785.To)).bind fun fromv1793=>
 a3D sv1338 out1782 fromv1793
def a5c (rv10:(List Span)) (rv22:(List Span)) (sv33:((List Span) × Int)) (sv1338:((List Span) × Int × Int)):Option (((List Span) × Int × Int) ⊕ ((List Span) × Int)):=
 (if (decide (sv1338.2.2<(rv22.length:Int)))=true then
 (ix rv22 sv1338.2.2).bind fun x1698=>
 (if (decide (x1698.To≤sv1338.2.1))=true then
 some true
 else
 (ix rv22 sv1338.2.2).bind fun x1711=>
 (ix rv10 sv33.2).bind fun x1720=>
 some (decide (x1720.To≤x1711.From))).bind fun c1727=>
 (if c1727=true then
 a3D sv1338 sv1338.1 sv1338.2.1
 else
 (ix rv22 sv1338.2.2).bind fun x1754=>
 (if (decide (sv1338.2.1<x1754.From))=true then
 (ix rv22 sv1338.2.2).bind fun x1797=>
 (R5 16 sv1338.1 ([(⟨sv1338.2.1,x1797.From⟩:Span)]:List Span)).bind fun l1807=>
 a3E rv22 sv1338 l1807
 else
 a3E rv22 sv1338 sv1338.1))
 else
 some (Sum.inr (sv1338.1,sv1338.2.1)))
def a3F (sv33:((List Span) × Int)) (out1842:(List Span)):Option (((List Span) × Int) ⊕ (List Span)):=
 (some (w64 (sv33.2+1))).bind fun i1844=>
 some (Sum.inl (out1842,i1844))
def a5b (rv10:(List Span)) (rv22:(List Span)) (sv33:((List Span) × Int)):Option (((List Span) × Int) ⊕ (List Span)):=
 (if (decide (sv33.2<(rv10.length:Int)))=true then
 (ix rv10 sv33.2).bind fun x1327=>
 (o5 (a5c rv10 rv22 sv33) (sv33.1,x1327.From,0)).bind fun e1605=>
 (ix rv10 sv33.2).bind fun x1814=>
 (if (decide (e1605.2<x1814.To))=true then
 (ix rv10 sv33.2).bind fun x1848=>
 (R5 16 e1605.1 ([(⟨e1605.2,x1848.To⟩:Span)]:List Span)).bind fun l1858=>
 a3F sv33 l1858
 else
 a3F sv33 e1605.1)
 else
 some (Sum.inr sv33.1))
def a3m (a1:(List Span)) (b5:(List Span)):Option (List Span):=
 (a2t a1).bind fun rv10=>
 (a2t b5).bind fun rv22=>
 (o5 (a5b rv10 rv22) (([]:List Span),0)).bind fun e1002=>
 some e1002
def a4h (h1:History) (n8:Int) (sv118:((List Channel) × Int)):Option (((List Channel) × Int) ⊕ (Inventory × Bool)):=
 (if (decide (sv118.2<n8))=true then
 (ix h1.Changes sv118.2).bind fun x243=>
 (a0p (⟨sv118.1⟩:Inventory) x243).bind fun rv259=>
 (if (rv259.2 != 0)=true then
 some (Sum.inr ((⟨([]:List Channel)⟩:Inventory),false))
 else
 (some (w64 (sv118.2+1))).bind fun i299=>
 some (Sum.inl (rv259.1.Channels,i299)))
 else
 Option.map Sum.inr (some ((⟨sv118.1⟩:Inventory),true)))
def a1L (h1:History) (n8:Int):Option (Inventory × Bool):=
 (a3e h1.Base).bind fun rv12=>
 o5 (a4h h1 n8) (rv12.Channels,0)
def a4D (h1:History):Option Bool:=
 (a2g h1.Base).bind fun rv10=>
 (if ((!rv10) || (decide (256<(h1.Changes.length:Int))))=true then
 some false
 else
 (a1L h1 (h1.Changes.length:Int)).bind fun rv21=>
 some rv21.2)
def a2I (h1:History) (n8:Int):Option (Inventory × Int):=
 (a4D h1).bind fun rv12=>
 (if (!rv12)=true then
 some ((⟨([]:List Channel)⟩:Inventory),1)
 else
 (Q9 n8 0 (h1.Changes.length:Int)).bind fun rv22=>
 (if (!rv22)=true then
 some ((⟨([]:List Channel)⟩:Inventory),2)
 else
 (a1L h1 n8).bind fun rv32=>
 some (rv32.1,0)))
def a1m (h1:History) (c8:Change):Option (History × Int):=
 (a4D h1).bind fun rv16=>
 (if (!rv16)=true then
 some ((⟨(⟨([]:List Channel)⟩:Inventory),([]:List Change)⟩:History),1)
 else
 (if ((h1.Changes.length:Int) == 256)=true then
 some ((⟨(⟨([]:List Channel)⟩:Inventory),([]:List Change)⟩:History),8)
 else
 (a1L h1 (h1.Changes.length:Int)).bind fun rv28=>
 (a0p rv28.1 c8).bind fun rv40=>
 (if (rv40.2 != 0)=true then
 some ((⟨(⟨([]:List Channel)⟩:Inventory),([]:List Change)⟩:History),rv40.2)
 else
 (T9 c8.Epoch).bind fun rv54=>
 (a3e h1.Base).bind fun rv66=>
 (R5 160 ([]:List Change) h1.Changes).bind fun l72=>
 (R5 160 l72 ([(⟨c8.Kind,c8.Source,c8.From,rv54⟩:Change)]:List Change)).bind fun l79=>
 some ((⟨rv66,l79⟩:History),0))))
def a0o (sv34:((List Int) × Int × (List Channel) × (List Change) × Int)) (rv248:(Change × Dice)) (x346:(List Channel)) (x347:(List Change)):Option (((List Int) × Int × (List Channel) × (List Change) × Int) ⊕ ((List Int) × Int × (List Channel) × (List Change))):=
 (some (w64 (sv34.2.2.2.2 - 1))).bind fun i349=>
 some (Sum.inl (rv248.2.L,rv248.2.At,x346,x347,i349))
def a2d (sv34:((List Int) × Int × (List Channel) × (List Change) × Int)):Option (((List Int) × Int × (List Channel) × (List Change) × Int) ⊕ ((List Int) × Int × (List Channel) × (List Change))):=
 (if (decide (0<sv34.2.2.2.2))=true then
 (a2I (⟨(⟨sv34.2.2.1⟩:Inventory),sv34.2.2.2.1⟩:History) (sv34.2.2.2.1.length:Int)).bind fun rv236=>
 (U4 (⟨sv34.1,sv34.2.1⟩:Dice) rv236.1).bind fun rv248=>
 (a1m (⟨(⟨sv34.2.2.1⟩:Inventory),sv34.2.2.2.1⟩:History) rv248.1).bind fun rv257=>
 (if (rv257.2 == 0)=true then
 a0o sv34 rv248 rv257.1.Base.Channels rv257.1.Changes
 else
 a0o sv34 rv248 sv34.2.2.1 sv34.2.2.2.1)
 else
 some (Sum.inr (sv34.1,sv34.2.1,sv34.2.2.1,sv34.2.2.2.1)))
def a0n (d1:Dice) (n6:Int):Option (History × Dice):=
 (X9 d1 4).bind fun rv9=>
 (u6 rv9.2 (w64 (n6+1))).bind fun rv24=>
 (o5 (a2d) (rv24.2.L,rv24.2.At,rv9.1.Channels,([]:List Change),rv24.1)).bind fun e184=>
 some ((⟨(⟨e184.2.2.1⟩:Inventory),e184.2.2.2⟩:History),(⟨e184.1,e184.2.1⟩:Dice))
def a4j (l5:(List Change)) (sv133:((List Channel) × Int)):Option (((List Channel) × Int) ⊕ (Inventory × Bool)):=
 (if (decide (sv133.2<(l5.length:Int)))=true then
 (ix l5 sv133.2).bind fun x281=>
 (M0 (⟨sv133.1⟩:Inventory) x281).bind fun rv298=>
 (if (rv298.2 != 0)=true then
 some (Sum.inr ((⟨([]:List Channel)⟩:Inventory),false))
 else
 some (Sum.inl (rv298.1.Channels,(w64 (sv133.2+1)))))
 else
 Option.map Sum.inr (some ((⟨sv133.1⟩:Inventory),true)))
def a2K (inv1:Inventory) (l5:(List Change)):Option (Inventory × Bool):=
 (a0P inv1).bind fun rv12=>
 o5 (a4j l5) (rv12.Channels,0)
def a3M (h1:History):Option Bool:=
 (V8 h1.Base).bind fun rv10=>
 (if ((!rv10) || (decide (256<(h1.Changes.length:Int))))=true then
 some false
 else
 (a2K h1.Base h1.Changes).bind fun rv21=>
 some rv21.2)
def a0W (h1:History) (n8:Int):Option (Inventory × Int):=
 (a3M h1).bind fun rv12=>
 (if (!rv12)=true then
 some ((⟨([]:List Channel)⟩:Inventory),1)
 else
 (if ((decide (n8<0)) || (decide ((h1.Changes.length:Int)<n8)))=true then
 some ((⟨([]:List Channel)⟩:Inventory),2)
 else
 (D8 h1.Changes 0 n8).bind fun l29=>
 (a2K h1.Base l29).bind fun rv31=>
 some (rv31.1,0)))
def a5C (sv5:((List SourceID) × Int)) (out836:(List SourceID)):Option (((List SourceID) × Int) ⊕ (List SourceID)):=
 (some (w64 (sv5.2+1))).bind fun i838=>
 some (Sum.inl (out836,i838))
def a5D (l1:(List SourceID)) (sv5:((List SourceID) × Int)) (sv839:Int):Option (Int ⊕ Int):=
 (if (decide (sv839<(sv5.1.length:Int)))=true then
 (ix sv5.1 sv839).bind fun x948=>
 (ix l1 sv5.2).bind fun x961=>
 (a1K x948 x961).bind fun rv973=>
 some (decide (rv973<0))
 else
 some false).bind fun c974=>
 (if c974=true then
 (some (w64 (sv839+1))).bind fun k1018=>
 some (Sum.inl k1018)
 else
 some (Sum.inr sv839))
def a4m (l1:(List SourceID)) (sv5:((List SourceID) × Int)):Option (((List SourceID) × Int) ⊕ (List SourceID)):=
 (if (decide (sv5.2<(l1.length:Int)))=true then
 (o5 (a5D l1 sv5) (0)).bind fun e944=>
 (if (decide (e944<(sv5.1.length:Int)))=true then
 (ix sv5.1 e944).bind fun x1022=>
 (ix l1 sv5.2).bind fun x1035=>
 some ((x1022.Network == x1035.Network) && ((x1022.Station == x1035.Station) && ((x1022.Location == x1035.Location) && ((x1022.Channel == x1035.Channel) && true))))
 else
 some false).bind fun c1046=>
 (if c1046=true then
 a5C sv5 sv5.1
 else
 (ix l1 sv5.2).bind fun x1081=>
 (R5 64 sv5.1 ([x1081]:List SourceID)).bind fun l1095=>
 (D8 l1095 (w64 (e944+1)) (l1095.length:Int)).bind fun l1103=>
 (D8 l1095 e944 (l1095.length:Int)).bind fun l1108=>
 (some (I1 l1095 (w64 (e944+1)) (l1095.length:Int) l1108)).bind fun l1109=>
 (ix l1 sv5.2).bind fun x1119=>
 (ix l1109 e944).bind fun x1127=>
 (a3Q l1109 e944 x1119).bind fun l1139=>
 a5C sv5 l1139)
 else
 some (Sum.inr sv5.1))
def a8o (l1:(List SourceID)):Option (List SourceID):=
 (o5 (a4m l1) (([]:List SourceID),0)).bind fun e629=>
 some e629
def a8s (a1:Epoch) (b5:Epoch):Option Bool:=
 (a0k (⟨b5.From,b5.To,a1.Rate,a1.Position,a1.Response⟩:Epoch) b5).bind fun rv13=>
 some rv13
def a4K (sv1175:((List Span) × Int)) (own1563:(List Span)):Option (((List Span) × Int) ⊕ (List Span)):=
 (some (w64 (sv1175.2+1))).bind fun k1565=>
 some (Sum.inl (own1563,k1565))
def a1C (a1:Channel) (b5:Channel) (sv11:((List Span) × Int)) (sv1175:((List Span) × Int)):Option (((List Span) × Int) ⊕ (List Span)):=
 (if (decide (sv1175.2<(b5.Epochs.length:Int)))=true then
 (ix a1.Epochs sv11.2).bind fun x1489=>
 (ix b5.Epochs sv1175.2).bind fun x1501=>
 (a8s x1489 x1501).bind fun rv1517=>
 (if rv1517=true then
 (ix b5.Epochs sv1175.2).bind fun x1569=>
 (ix b5.Epochs sv1175.2).bind fun x1581=>
 (a3m sv1175.1 ([(⟨x1569.From,x1581.To⟩:Span)]:List Span)).bind fun rv1594=>
 a4K sv1175 rv1594
 else
 a4K sv1175 sv1175.1)
 else
 some (Sum.inr sv1175.1))
def a2W (a1:Channel) (b5:Channel) (sv11:((List Span) × Int)):Option (((List Span) × Int) ⊕ (List Span)):=
 (if (decide (sv11.2<(a1.Epochs.length:Int)))=true then
 (ix a1.Epochs sv11.2).bind fun x1145=>
 (ix a1.Epochs sv11.2).bind fun x1162=>
 (o5 (a1C a1 b5 sv11) (([(⟨x1145.From,x1162.To⟩:Span)]:List Span),0)).bind fun e1409=>
 (R5 16 sv11.1 e1409).bind fun l1610=>
 (some (w64 (sv11.2+1))).bind fun i1615=>
 some (Sum.inl (l1610,i1615))
 else
 some (Sum.inr sv11.1))
def a2u (a1:Channel) (b5:Channel):Option (List Span):=
 (o5 (a2W a1 b5) (([]:List Span),0)).bind fun e860=>
 some e860
def a3n (a1:(List Span)) (b5:(List Span)):Option (List Span):=
 (R5 16 ([]:List Span) a1).bind fun l10=>
 (R5 16 l10 b5).bind fun l15=>
 (a2t l15).bind fun rv20=>
 some rv20
def a1T (a1:Inventory) (sv40:((List SourceID) × Int)):Option (((List SourceID) × Int) ⊕ (List SourceID)):=
 (if (decide (sv40.2<(a1.Channels.length:Int)))=true then
 (ix a1.Channels sv40.2).bind fun x166=>
 (R5 64 sv40.1 ([x166.Source]:List SourceID)).bind fun l184=>
 (some (w64 (sv40.2+1))).bind fun i189=>
 some (Sum.inl (l184,i189))
 else
 some (Sum.inr sv40.1))
def a1U (b5:Inventory) (sv191:((List SourceID) × Int)):Option (((List SourceID) × Int) ⊕ (List SourceID)):=
 (if (decide (sv191.2<(b5.Channels.length:Int)))=true then
 (ix b5.Channels sv191.2).bind fun x317=>
 (R5 64 sv191.1 ([x317.Source]:List SourceID)).bind fun l335=>
 (some (w64 (sv191.2+1))).bind fun i340=>
 some (Sum.inl (l335,i340))
 else
 some (Sum.inr sv191.1))
def a3H (sv355:((List Affected) × Int)) (out852:(List Affected)):Option (((List Affected) × Int) ⊕ (List Affected)):=
 (some (w64 (sv355.2+1))).bind fun i854=>
 some (Sum.inl (out852,i854))
def a1V (a1:Inventory) (b5:Inventory) (rv343:(List SourceID)) (sv355:((List Affected) × Int)):Option (((List Affected) × Int) ⊕ (List Affected)):=
 (if (decide (sv355.2<(rv343.length:Int)))=true then
 (ix rv343 sv355.2).bind fun x697=>
 (a6r a1 x697).bind fun rv709=>
 (ix rv343 sv355.2).bind fun x747=>
 (a6r b5 x747).bind fun rv755=>
 (a2u rv709.1 rv755.1).bind fun rv792=>
 (a2u rv755.1 rv709.1).bind fun rv798=>
 (a3n rv792 rv798).bind fun rv804=>
 (if (decide (0<(rv804.length:Int)))=true then
 (ix rv343 sv355.2).bind fun x858=>
 (R5 88 sv355.1 ([(⟨x858,rv804⟩:Affected)]:List Affected)).bind fun l869=>
 a3H sv355 l869
 else
 a3H sv355 sv355.1)
 else
 some (Sum.inr sv355.1))
def a7d (a1:Inventory) (b5:Inventory):Option (List Affected):=
 (a2g a1).bind fun rv12=>
 ((if (!rv12)=true then
 some true
 else
 (a2g b5).bind fun rv31=>
 some (!rv31))).bind fun c28=>
 (if c28=true then
 some ([]:List Affected)
 else
 (o5 (a1T a1) (([]:List SourceID),0)).bind fun e133=>
 (o5 (a1U b5) (e133,0)).bind fun e284=>
 (a8o e284).bind fun rv343=>
 (o5 (a1V a1 b5 rv343) (([]:List Affected),0)).bind fun e610=>
 some e610)
def a0g (a1:(List Affected)) (b5:(List Affected)) (sv214:Int):Option (Int ⊕ Bool):=
 (if (decide (sv214<(a1.length:Int)))=true then
 (ix a1 sv214).bind fun x486=>
 (ix b5 sv214).bind fun x503=>
 (if (!((x486.Source.Network == x503.Source.Network) && ((x486.Source.Station == x503.Source.Station) && ((x486.Source.Location == x503.Source.Location) && ((x486.Source.Channel == x503.Source.Channel) && true)))))=true then
 some true
 else
 (ix a1 sv214).bind fun x520=>
 (ix b5 sv214).bind fun x532=>
 (a4g x520.Spans x532.Spans).bind fun rv543=>
 some (!rv543)).bind fun c544=>
 (if c544=true then
 some (Sum.inr false)
 else
 (some (w64 (sv214+1))).bind fun i585=>
 some (Sum.inl i585))
 else
 Option.map Sum.inr (some true))
def a1n (a1:(List Affected)) (b5:(List Affected)):Option Bool:=
 (if ((a1.length:Int) != (b5.length:Int))=true then
 some false
 else
 o5 (a0g a1 b5) (0))
def P5 (h1:History) (n8:Int) (m9:Int):Option ((List Affected) × Int):=
 (a0W h1 n8).bind fun rv12=>
 (if (rv12.2 != 0)=true then
 some (([]:List Affected),rv12.2)
 else
 (a0W h1 m9).bind fun rv27=>
 (if (rv27.2 != 0)=true then
 some (([]:List Affected),rv27.2)
 else
 (a0q rv12.1 rv27.1).bind fun rv42=>
 some (rv42,0)))
def R7 (rv44:(History × Dice)) (sv672:((Mk SourceID (List Span)) × Int)) (rv1401:((List Affected) × Int)) (sv1579:((Mk SourceID (List Span)) × Int)):Option (((Mk SourceID (List Span)) × Int) ⊕ (((Mk SourceID (List Span)) × Int) ⊕ Bool)):=
 (if (decide (sv1579.2<(rv1401.1.length:Int)))=true then
 (ix rv1401.1 sv1579.2).bind fun x1799=>
 (ix rv44.1.Changes sv672.2).bind fun x1817=>
 (if (!((x1799.Source.Network == x1817.Source.Network) && ((x1799.Source.Station == x1817.Source.Station) && ((x1799.Source.Location == x1817.Source.Location) && ((x1799.Source.Channel == x1817.Source.Channel) && true)))))=true then
 some (Sum.inr (Sum.inr false))
 else
 (Mk.get sv1579.1 x1799.Source).bind fun g1838=>
 (a3n g1838 x1799.Spans).bind fun rv1842=>
 (Mk.put sv1579.1 x1799.Source rv1842).bind fun m1849=>
 some (Sum.inl (m1849,(w64 (sv1579.2+1)))))
 else
 Option.map Sum.inr ((some (w64 (sv672.2+1))).bind fun i1859=>
 some (Sum.inl (sv1579.1,i1859))))
def R8 (rv64:((List Affected) × Int)) (sv672:((Mk SourceID (List Span)) × Int)) (sv1960:Int):Option (Int ⊕ Bool):=
 (if (decide (sv1960<(rv64.1.length:Int)))=true then
 (ix rv64.1 sv1960).bind fun x2094=>
 (Mk.get sv672.1 x2094.Source).bind fun g2111=>
 (a3m x2094.Spans g2111).bind fun rv2115=>
 (if (decide (0<(rv2115.length:Int)))=true then
 some (Sum.inr false)
 else
 some (Sum.inl (w64 (sv1960+1))))
 else
 Option.map Sum.inr ((a4Y).bind fun rv2131=>
 some rv2131))
def a0f (rv44:(History × Dice)) (n62:Int) (rv64:((List Affected) × Int)) (sv672:((Mk SourceID (List Span)) × Int)):Option (((Mk SourceID (List Span)) × Int) ⊕ Bool):=
 (if (decide (sv672.2<n62))=true then
 (P5 rv44.1 sv672.2 (w64 (sv672.2+1))).bind fun rv1401=>
 (if ((rv1401.2 != 0) || (decide (1<(rv1401.1.length:Int))))=true then
 some (Sum.inr false)
 else
 o5 (R7 rv44 sv672 rv1401) (sv672.1,0))
 else
 Option.map Sum.inr (o5 (R8 rv64 sv672) (0)))
def a3a (t1:(List Int)):Option Bool:=
 (a6m t1).bind fun rv6=>
 (if (!rv6)=true then
 (a4Y).bind fun rv24=>
 some rv24
 else
 (a9r t1).bind fun rv32=>
 (a0n rv32 5).bind fun rv44=>
 (some (rv44.1.Changes.length:Int)).bind fun n62=>
 (P5 rv44.1 0 n62).bind fun rv64=>
 (P5 rv44.1 n62 0).bind fun rv76=>
 (P5 rv44.1 n62 n62).bind fun rv88=>
 ((if ((((rv64.2 != 0) || (rv76.2 != 0)) || (rv88.2 != 0)) || ((rv88.1.length:Int) != 0))=true then
 some true
 else
 (a1n rv64.1 rv76.1).bind fun rv114=>
 some (!rv114))).bind fun c111=>
 (if c111=true then
 some false
 else
 o5 (a0f rv44 n62 rv64) ((⟨0,fun _=>([]:List Span)⟩:Mk SourceID (List Span)),0)))
end
end Go.Proofs.YteanekphncdhiaaGreat.Sh

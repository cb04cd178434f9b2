/- The walks of RevisionExact, part 5: each Go function computes what its plain program computes. Printed by a program of ours. -/
import Derived.Test.YteanekphncdhiaaGreatProg
import Derived.Test.YteanekphncdhiaaGreatDat
import Derived.Test.YteanekphncdhiaaGreatSh
import Derived.Test.YteanekphncdhiaaGreatLa1
import Derived.Test.YteanekphncdhiaaGreatLa2
import Derived.Test.YteanekphncdhiaaGreatLibCh
import Derived.KernelRfl
import Derived.Test.YteanekphncdhiaaGreatLb1
import Derived.Shelf.SlLaysF0
import Derived.Test.YteanekphncdhiaaGreatWRevisionExact4
namespace Go.Proofs.YteanekphncdhiaaGreat.Wk
open Go Go.RowKit Go.Proofs Go.Proofs.YteanekphncdhiaaGreat.Sh Go.Proofs.Tryz
set_option linter.unusedVariables false
set_option linter.unusedSimpArgs false
set_option maxHeartbeats 4000000
set_option maxRecDepth 100000
abbrev b3g:List Value:=[.slice none ([]:List Channel).length 0]
abbrev a7j (n9:Int) (c:Int) (a:(Int × Dice)) (b:(Int × Dice)):List Value:=[iv n9,iv c,iv (w64 (a.1 - 1)),iv b.1]
abbrev a7y (a:(Change × Dice)) (b:(Change × Dice)) (c:Change):List Change:=([a.1,b.1,c]:List Change)
abbrev E8_8 (c:Int) (d:Int) (a:(Int × Dice)) (b:(Int × Dice)):List Value:=[iv c,iv d,iv (w64 (1000000000000+(w64 (1000 * a.1)))),iv (w64 (1000000000000+(w64 (1000 * b.1))))]
abbrev E8_7:List Channel:=([(⟨(⟨ByteArray.empty,ByteArray.empty,ByteArray.empty,ByteArray.empty⟩:SourceID),([]:List Epoch)⟩:Channel)]:List Channel)
abbrev b0T (c:Int) (d:Int) (a:(Int × Dice)) (b:(Int × Dice)):List (Arr2 Int):=([(⟨c,d⟩:(Arr2 Int)),(⟨(w64 (1000000000000+(w64 (1000 * a.1)))),(w64 (1000000000000+(w64 (1000 * b.1))))⟩:(Arr2 Int))]:List (Arr2 Int))
abbrev a5j (p55:Option Addr) (b:Nat) (a:(History × Dice)) (p58:Option Addr) (c:Nat) (f:Option Addr) (d:Nat) (e:(List Change)):List Value:=[sl p55 b a.1.Base.Channels,sl p58 c a.1.Changes,sl p55 b a.1.Base.Channels,sl f d e]
abbrev E8_4 (b:(Change × Dice)) (d:Option Addr) (c:Nat) (a:Change) (p6:Option Addr) (k7:Nat):List Value:=[iv b.1.Kind,.string b.1.Source.Network,.string b.1.Source.Station,.string b.1.Source.Location,.string b.1.Source.Channel,iv b.1.From,iv b.1.Epoch.From,iv b.1.Epoch.To,iv b.1.Epoch.Rate.Num,iv b.1.Epoch.Rate.Den,iv b.1.Epoch.Position.X,iv b.1.Epoch.Position.Y,iv b.1.Epoch.Position.Z,sl d c b.1.Epoch.Response.Stages,iv a.Kind,.string a.Source.Network,.string a.Source.Station,.string a.Source.Location,.string a.Source.Channel,iv a.From,iv a.Epoch.From,iv a.Epoch.To,iv a.Epoch.Rate.Num,iv a.Epoch.Rate.Den,iv a.Epoch.Position.X,iv a.Epoch.Position.Y,iv a.Epoch.Position.Z,sl p6 k7 a.Epoch.Response.Stages]
abbrev a2A (n9:Int) (c:Int) (a:(Int × Dice)) (b:(Int × Dice)):List (Arr2 Int):=([(⟨n9,c⟩:(Arr2 Int)),(⟨(w64 (a.1 - 1)),b.1⟩:(Arr2 Int))]:List (Arr2 Int))
abbrev Q3 (a:(History × Dice)) (b:(List Change)):List History:=([a.1,(⟨a.1.Base,b⟩:History)]:List History)
abbrev E8_1 (a:(Change × Dice)) (f:Option Addr) (d:Nat) (b:(Change × Dice)) (g:Option Addr) (e:Nat) (c:Change) (p6:Option Addr) (k7:Nat):List Value:=[iv a.1.Kind,.string a.1.Source.Network,.string a.1.Source.Station,.string a.1.Source.Location,.string a.1.Source.Channel,iv a.1.From,iv a.1.Epoch.From,iv a.1.Epoch.To,iv a.1.Epoch.Rate.Num,iv a.1.Epoch.Rate.Den,iv a.1.Epoch.Position.X,iv a.1.Epoch.Position.Y,iv a.1.Epoch.Position.Z,sl f d a.1.Epoch.Response.Stages,iv b.1.Kind,.string b.1.Source.Network,.string b.1.Source.Station,.string b.1.Source.Location,.string b.1.Source.Channel,iv b.1.From,iv b.1.Epoch.From,iv b.1.Epoch.To,iv b.1.Epoch.Rate.Num,iv b.1.Epoch.Rate.Den,iv b.1.Epoch.Position.X,iv b.1.Epoch.Position.Y,iv b.1.Epoch.Position.Z,sl g e b.1.Epoch.Response.Stages,iv c.Kind,.string c.Source.Network,.string c.Source.Station,.string c.Source.Location,.string c.Source.Channel,iv c.From,iv c.Epoch.From,iv c.Epoch.To,iv c.Epoch.Rate.Num,iv c.Epoch.Rate.Den,iv c.Epoch.Position.X,iv c.Epoch.Position.Y,iv c.Epoch.Position.Z,sl p6 k7 c.Epoch.Response.Stages]
abbrev b1W (b:Change) (p6:Option Addr) (k7:Nat) (a:(Change × Dice)) (d:Option Addr) (c:Nat):List Value:=[iv b.Kind,.string b.Source.Network,.string b.Source.Station,.string b.Source.Location,.string b.Source.Channel,iv b.From,iv b.Epoch.From,iv b.Epoch.To,iv b.Epoch.Rate.Num,iv b.Epoch.Rate.Den,iv b.Epoch.Position.X,iv b.Epoch.Position.Y,iv b.Epoch.Position.Z,sl p6 k7 b.Epoch.Response.Stages,iv a.1.Kind,.string a.1.Source.Network,.string a.1.Source.Station,.string a.1.Source.Location,.string a.1.Source.Channel,iv a.1.From,iv a.1.Epoch.From,iv a.1.Epoch.To,iv a.1.Epoch.Rate.Num,iv a.1.Epoch.Rate.Den,iv a.1.Epoch.Position.X,iv a.1.Epoch.Position.Y,iv a.1.Epoch.Position.Z,sl d c a.1.Epoch.Response.Stages]
theorem a7H {w0 S0 p2 k3 p6 k7 t1 c n9 n k C r} (u:a3D t1 c n9 n k C=some r) (hS:Dm S0 w0) (h4:(Sq p2 k3 t1).p S0 w0) (h8:(Sq p6 k7 c.Epoch.Response.Stages).p S0 w0):Ck Tryz.prog 8 #[sl p2 k3 t1,V43 c p6 k7,iv n9,iv n,iv k,iv C] w0 S0 [] o5 r:=by
 refine en 366 func8 y hS y y y fun a s d=>?_
 have d:=(d.addE h4).addE h8
 refine sr (wb (C43 c p6 k7) s d y fun V a w s d=>?_)
 refine rz0 1 s y fun a s=>l3 (sn0 1 s y fun a s=>?_)
 obtain ⟨jN,ig,u⟩:=bt u
 refine cV s d (b2S ig d.bdom (d.bE 1 y)) (j3 call9 y) y fun a w s d=>rn0 2 s y fun a s=>rO 7 55 [0] s d y y y y y fun a s=>nl (cd s u y (fun u=>?_) fun u=>?_)
 ·refine sr ?_
  obtain ⟨jO,ih,u⟩:=bt u
  refine cV s d (a9A ih d.bdom) (j3 call10 y) y fun a w s d=>rz0 1 s y fun a s=>?_
  obtain rfl:=oi u
  exact t7 (j4 (rt s y (d.ret y)))
 refine sk (sn0 1 s y fun a s=>?_)
 obtain ⟨hi,ii,u⟩:=bt u
 refine cR s (b3N ii d.dom (d.envAt 1 y)) (j3 call11 y) y ?_
 rintro jT jK w a ik ⟨W,p44,iy,rfl,il,ij⟩ s
 have d:=(d.callN ik il).addE (e:=Sq p44 iy hi.L) ij
 refine rz0 1 s y fun a s=>sn0 1 s y fun a s=>?_
 obtain ⟨b,im,u⟩:=bt u
 refine cR s (a8x im d.dom (d.ins [0] (by decide) y) (d.envAt 0 y)) (j3 call21 y) y ?_
 rintro jU jL w a it ⟨p55,t,p58,R,p61,iz,rfl,iu,ip,iq,ir⟩ s
 have d:=((d.callO [0] [1] (by decide) y it iu).addE (e:=Sq p55 t b.1.Base.Channels) ip).addE (e:=Sq p58 R b.1.Changes) iq
 have d:=d.addE (e:=Sq p61 iz b.2.L) ir
 refine wa Z21 s d zeroValue65 fun aZ a w s d=>ws (C65 b.1 p55 t p58 R) s d 0 y y y C1 fun a w s d=>nl (l3 ?_)
 obtain ⟨jS,g9,u⟩:=bt u
 obtain ⟨ab,fn,u⟩:=bt u
 obtain ⟨f,cC,u⟩:=bt u
 refine C7 (fun a w=>∃ dw af ah aG x aK z,Sl 366 [(2,iv n9),(3,iv n),(4,iv k),(5,iv C),(7,pt V),(13,pt W),(14,pt aZ),(15,pt af)] a∧Wd ⟨w0,S0,[]⟩ dw [.box V (C43 c p6 k7) 43,.box W (C94 ab.2 aK aG) 94,.box aZ (C65 b.1 p55 t p58 R) 65,.box af [sl p55 t b.1.Base.Channels,sl z x f] 65,.row z f.length x ah 43 14] [Sq p6 k7 c.Epoch.Response.Stages,Sq aK aG ab.2.L,Sq p55 t b.1.Base.Channels,Sq p58 R b.1.Changes,j6 ah f] w) ?_ ?_
 ·refine h_c [0,2] [] d y y (by kernel_rfl) y fun hC d=>gn 8 [0,1,2,3,5,6,7,9] [0,0,0,1] s hC y y y fun a s=>a2E (rs:=[4,13]) (by kernel_rfl) y ?_
  refine Q7.cons y ?_ ?_
  ·have d:=d.nilRow Change 43
   refine R4 (α:=Change) s d a5R 0 y y y 0 y 2 y g9 y j8 ?_
   intro p73 iA ie a w s d
   refine h_n [1,3] [] d y y fun hC=>a2E (rs:=[8,13]) (by kernel_rfl) y ?_
   refine Q7.cons y ?_ ?_
   ·refine cR s (L6 fn d.dom (d.ins [2] (by decide) y) (d.envAt 2 y) (d.envAt 4 y)) (j3 call13 y) y ?_
    rintro jV jM w a iw ⟨bh,bg,cn,aK,aG,rfl,ix,cA,cB⟩ s
    have d:=((d.callO [2] [0,1,3] (by decide) y iw ix).addE (e:=j6 cn ab.1.Epoch.Response.Stages) cA).addE (e:=Sq aK aG ab.2.L) cB
    refine h_n [3,4] [] d y y fun hC=>a2E (rs:=[10,13]) (by kernel_rfl) y ?_
    refine Q7.cons y ?_ ?_
    ·obtain ⟨cZ,d⟩:=C8 (α:=Stage) d 0 y 1 y
     refine q8 (α:=Change) (vs:=[V43 ab.1 bh bg,V43 c p6 k7]) (cs:=(E8_4 ab bh bg c p6 k7)) (xs:=([ab.1,c]:List Change)) s d a5R y y y y y y ⟨⟨_,_,_,_,_,_,_,_,_,_,_,_,_,_,y,y,y,y,y,y,y,y,y,y,y,y,y,y,⟨_,_,_,y,d.envAt 0 y⟩⟩,⟨⟨_,_,_,_,_,_,_,_,_,_,_,_,_,_,y,y,y,y,y,y,y,y,y,y,y,y,y,y,⟨_,_,_,y,d.envAt 9 y⟩⟩,y⟩⟩ y j8 y fun dx a w s d=>h_n [3,4] [] d y y fun hC=>h_d [3,4,0] [] [0,1] [] d y y y y fun hC=>a2E (rs:=[11,13]) (by kernel_rfl) y ?_
     refine Q7.cons y ?_ ?_
     ·refine F6 (α:=Change) s d a5R 2 y y y 4 y 0 y 0 y cC y j8 ?_
      intro z x ah a w s d
      refine h_n [3,4,0] [] d y y fun hC=>gv s 12 y y hC (fun w hC=>A8 (vs:=[(0,.agg #[sl p55 t b.1.Base.Channels]),(1,sl z x f)]) a6n y y) fun a s=>ho 13 y ?_
      refine wa Z21 s d zeroValue65 fun af a w s d=>h_n [4,5,1] [] d y y fun hC=>ho 14 y ?_
      refine ws [sl p55 t b.1.Base.Channels,sl z x f] s d 0 y y y C1 fun a w s d=>h_n [4,5,1] [] d y y fun hC=>q9 (by kernel_rfl) ?_
      exact ⟨cZ,af,ah,aG,x,aK,z,wj s d [5,2,4,0,3] [11,3,9,8,0]⟩
     refine Q7.cons y ?_ ?_
     ·refine wa Z21 s d zeroValue65 fun af a w s d=>h_n [4,5,1] [] d y y fun hC=>ho 11 y ?_
      refine F6 (α:=Change) s d a5R 3 y y y 4 y 1 y 0 y cC y j8 ?_
      intro z x ah a w s d
      refine h_n [4,5,1] [] d y y fun hC=>gv s 12 y y hC (fun w hC=>A8 (vs:=[(0,.agg #[sl p55 t b.1.Base.Channels]),(1,sl z x f)]) a6n y y) fun a s=>ho 14 y ?_
      refine ws [sl p55 t b.1.Base.Channels,sl z x f] s d 0 y y y C1 fun a w s d=>h_n [4,5,1] [] d y y fun hC=>q9 (by kernel_rfl) ?_
      exact ⟨cZ,af,ah,aG,x,aK,z,wj s d [5,2,4,0,3] [11,3,9,8,0]⟩
     exact Q7.nil
    refine Q7.cons y ?_ ?_
    ·refine wa Z21 s d zeroValue65 fun af a w s d=>h_n [4,5] [] d y y fun hC=>ho 10 y ?_
     obtain ⟨fI,d⟩:=C8 (α:=Stage) d 1 y 1 y
     refine q8 (α:=Change) (vs:=[V43 ab.1 bh bg,V43 c p6 k7]) (cs:=(E8_4 ab bh bg c p6 k7)) (xs:=([ab.1,c]:List Change)) s d a5R y y y y y y ⟨⟨_,_,_,_,_,_,_,_,_,_,_,_,_,_,y,y,y,y,y,y,y,y,y,y,y,y,y,y,⟨_,_,_,y,d.envAt 0 y⟩⟩,⟨⟨_,_,_,_,_,_,_,_,_,_,_,_,_,_,y,y,y,y,y,y,y,y,y,y,y,y,y,y,⟨_,_,_,y,d.envAt 9 y⟩⟩,y⟩⟩ y j8 y fun dx a w s d=>h_n [4,5] [] d y y fun hC=>h_d [4,5,0] [] [0,1] [] d y y y y fun hC=>ho 11 y ?_
     refine F6 (α:=Change) s d a5R 3 y y y 4 y 0 y 0 y cC y j8 ?_
     intro z x ah a w s d
     refine h_n [4,5,0] [] d y y fun hC=>gv s 12 y y hC (fun w hC=>A8 (vs:=[(0,.agg #[sl p55 t b.1.Base.Channels]),(1,sl z x f)]) a6n y y) fun a s=>ho 14 y ?_
     refine ws [sl p55 t b.1.Base.Channels,sl z x f] s d 1 y y y C1 fun a w s d=>h_n [4,5,0] [] d y y fun hC=>q9 (by kernel_rfl) ?_
     exact ⟨fI,af,ah,aG,x,aK,z,wj s d [5,2,4,1,3] [11,3,9,8,0]⟩
    exact Q7.nil
   refine Q7.cons y ?_ ?_
   ·refine wa Z21 s d zeroValue65 fun af a w s d=>h_n [2,4] [] d y y fun hC=>ho 8 y ?_
    refine cR s (L6 fn d.dom (d.ins [3] (by decide) y) (d.envAt 2 y) (d.envAt 4 y)) (j3 call13 y) y ?_
    rintro jP i8 w a ha ⟨bh,bg,cn,aK,aG,rfl,hb,cA,cB⟩ s
    have d:=((d.callO [3] [0,1,2,4] (by decide) y ha hb).addE (e:=j6 cn ab.1.Epoch.Response.Stages) cA).addE (e:=Sq aK aG ab.2.L) cB
    refine h_n [4,5] [] d y y fun hC=>ho 10 y ?_
    obtain ⟨fJ,d⟩:=C8 (α:=Stage) d 0 y 1 y
    refine q8 (α:=Change) (vs:=[V43 ab.1 bh bg,V43 c p6 k7]) (cs:=(E8_4 ab bh bg c p6 k7)) (xs:=([ab.1,c]:List Change)) s d a5R y y y y y y ⟨⟨_,_,_,_,_,_,_,_,_,_,_,_,_,_,y,y,y,y,y,y,y,y,y,y,y,y,y,y,⟨_,_,_,y,d.envAt 0 y⟩⟩,⟨⟨_,_,_,_,_,_,_,_,_,_,_,_,_,_,y,y,y,y,y,y,y,y,y,y,y,y,y,y,⟨_,_,_,y,d.envAt 9 y⟩⟩,y⟩⟩ y j8 y fun dx a w s d=>h_n [4,5] [] d y y fun hC=>h_d [4,5,0] [] [0,1] [] d y y y y fun hC=>ho 11 y ?_
    refine F6 (α:=Change) s d a5R 3 y y y 4 y 0 y 0 y cC y j8 ?_
    intro z x ah a w s d
    refine h_n [4,5,0] [] d y y fun hC=>gv s 12 y y hC (fun w hC=>A8 (vs:=[(0,.agg #[sl p55 t b.1.Base.Channels]),(1,sl z x f)]) a6n y y) fun a s=>ho 14 y ?_
    refine ws [sl p55 t b.1.Base.Channels,sl z x f] s d 2 y y y C1 fun a w s d=>h_n [4,5,0] [] d y y fun hC=>q9 (by kernel_rfl) ?_
    exact ⟨fJ,af,ah,aG,x,aK,z,wj s d [5,1,4,2,3] [11,3,9,8,0]⟩
   exact Q7.nil
  refine Q7.cons y ?_ ?_
  ·refine wa Z21 s d zeroValue65 fun af a w s d=>h_n [1,3] [] d y y fun hC=>ho 4 y ?_
   have d:=d.nilRow Change 43
   refine R4 (α:=Change) s d a5R 0 y y y 0 y 2 y g9 y j8 ?_
   intro p73 iA ie a w s d
   refine h_n [2,4] [] d y y fun hC=>ho 8 y ?_
   refine cR s (L6 fn d.dom (d.ins [3] (by decide) y) (d.envAt 2 y) (d.envAt 4 y)) (j3 call13 y) y ?_
   rintro jQ i9 w a hc ⟨bh,bg,cn,aK,aG,rfl,hd,cA,cB⟩ s
   have d:=((d.callO [3] [0,1,2,4] (by decide) y hc hd).addE (e:=j6 cn ab.1.Epoch.Response.Stages) cA).addE (e:=Sq aK aG ab.2.L) cB
   refine h_n [4,5] [] d y y fun hC=>ho 10 y ?_
   obtain ⟨fK,d⟩:=C8 (α:=Stage) d 0 y 1 y
   refine q8 (α:=Change) (vs:=[V43 ab.1 bh bg,V43 c p6 k7]) (cs:=(E8_4 ab bh bg c p6 k7)) (xs:=([ab.1,c]:List Change)) s d a5R y y y y y y ⟨⟨_,_,_,_,_,_,_,_,_,_,_,_,_,_,y,y,y,y,y,y,y,y,y,y,y,y,y,y,⟨_,_,_,y,d.envAt 0 y⟩⟩,⟨⟨_,_,_,_,_,_,_,_,_,_,_,_,_,_,y,y,y,y,y,y,y,y,y,y,y,y,y,y,⟨_,_,_,y,d.envAt 9 y⟩⟩,y⟩⟩ y j8 y fun dx a w s d=>h_n [4,5] [] d y y fun hC=>h_d [4,5,0] [] [0,1] [] d y y y y fun hC=>ho 11 y ?_
   refine F6 (α:=Change) s d a5R 2 y y y 4 y 0 y 0 y cC y j8 ?_
   intro z x ah a w s d
   refine h_n [4,5,0] [] d y y fun hC=>gv s 12 y y hC (fun w hC=>A8 (vs:=[(0,.agg #[sl p55 t b.1.Base.Channels]),(1,sl z x f)]) a6n y y) fun a s=>ho 14 y ?_
   refine ws [sl p55 t b.1.Base.Channels,sl z x f] s d 3 y y y C1 fun a w s d=>h_n [4,5,0] [] d y y fun hC=>q9 (by kernel_rfl) ?_
   exact ⟨fK,af,ah,aG,x,aK,z,wj s d [5,1,4,3,2] [11,3,9,8,0]⟩
  exact Q7.nil
 rintro a w ⟨dw,af,ah,aG,x,aK,z,s,d⟩
 refine tn (sn 4 [2,2] s d y y fun a s=>?_)
 obtain ⟨o,he,u⟩:=bt u
 refine cR s (a1J he d.dom (d.envAt 2 y) (d.envAt 3 y)) (j3 call22 y) y ?_
 rintro jR ja w a hg ⟨E,D,rfl,hf⟩ s
 have d:=(d.call hg).addE (e:=Sq E D o.1.Channels) hf
 refine rn0 3 s y fun a s=>wa b3g s d zeroValue29 fun N a w s d=>ws [sl E D o.1.Channels] s d 0 y y y s9 fun a w s d=>rz0 1 s y fun a s=>l3 (sn 3 [0,3] s d y y fun a s=>?_)
 refine sv s (A8 (vs:=[]) b1T y y) y fun a s=>?_
 have d:=d.addE (e:=SlA (α:=Epoch) none 0 0 []) K9
 refine q8 (α:=Channel) (vs:=[.agg Z2.toArray]) (cs:=Z2) (xs:=E8_7) s d a8i y y y y y y ⟨⟨_,_,_,_,_,y,y,y,y,y,⟨_,_,_,y,d.envAt 0 y⟩⟩,y⟩ y j8 y fun cQ a w s d=>sv s (A8 (vs:=[(0,sl (ad cQ) E8_7.length E8_7)]) a5Q y y) y fun a s=>?_
 obtain ⟨U,hh,u⟩:=bt u
 obtain ⟨fL,d⟩:=C8 (α:=Channel) d 0 y 0 y
 refine b5f (α:=Inventory) (vs:=[.agg #[sl E D o.1.Channels],.agg #[sl p55 t b.1.Base.Channels],.agg #[sl (ad cQ) E8_7.length E8_7]]) (cs:=[sl E D o.1.Channels,sl p55 t b.1.Base.Channels,sl (ad cQ) E8_7.length E8_7]) (xs:=([o.1,b.1.Base,(⟨E8_7⟩:Inventory)]:List Inventory)) s d El84 y y y y y y ⟨⟨_,y,⟨_,_,_,y,d.envAt 3 y⟩⟩,⟨⟨_,y,⟨_,_,_,y,d.envAt 6 y⟩⟩,⟨⟨_,y,⟨_,_,_,y,d.envAt 0 y⟩⟩,y⟩⟩⟩ y j8 y hh fun aO aP a w s d=>rz0 2 s y fun a s=>m6 (u7 (fun ai a w=>∃ bG bD ci,Sl 366 [(2,iv n9),(3,iv n),(4,iv k),(5,iv C),(7,pt V),(13,pt W),(14,pt aZ),(15,pt af),(16,pt N),(95,sl (ad aO) U.length U),(96,iv (U.length:Int)),(97,iv ai.2.2)] a∧Wd ⟨w0,S0,[]⟩ ci [.box V (C43 c p6 k7) 43,.box W [sl bG bD ai.1,iv ai.2.1] 94,.box aZ (C65 b.1 p55 t p58 R) 65,.box af [sl p55 t b.1.Base.Channels,sl z x f] 65,.box N [sl E D o.1.Channels] 29,.row z f.length x ah 43 14,.row (ad aO) U.length U.length aP 29 1] [Sq p6 k7 c.Epoch.Response.Stages,Sq bG bD ai.1,Sq p55 t b.1.Base.Channels,Sq p58 R b.1.Changes,Sq E D o.1.Channels,j6 ah f,j6 aP U] w) (ab.2.L,ab.2.At,0) u ⟨aK,aG,fL,wj s d [2,3,4,5,1,6,0] [5,6,7,8,4,9,0]⟩ ?_)
 repeat clear u
 rintro ai a w iR ⟨bG,bD,ci,s,d⟩ u bV
 refine sz0 1 s y fun a s=>l3 (cd s u y (fun u=>?_) fun u=>?_)
 ·refine sk (l3 (m6 (sr ?_)))
  obtain ⟨aN,fV,u⟩:=bt u
  obtain ⟨js,jg,c0,fX,fY,fW⟩:=d.elemRK (α:=Inventory) 6 y 6 y fV
  obtain ⟨_,rfl,⟨aM,jm,aL,rfl,c1⟩⟩:=fW
  obtain rfl:=c1.1
  have d:=d.addE (e:=SlA aM _ aL aN.Channels) c1
  refine sv s (o7 N5 s9 y y c0.1 c0.2 fX) y fun a s=>sv s (I4 (j:=0) (d.ownAt 6 y) y D4 s9 fY y y) y fun a s=>wa b3g s d zeroValue29 fun be a w s d=>ws [sl aM aL aN.Channels] s d 0 y y y s9 fun a w s d=>nl (l3 (l3 ?_))
  obtain ⟨B,fZ,u⟩:=bt u
  obtain ⟨m,f2,u⟩:=bt u
  refine C7 (fun a w=>∃ bH au ao ap aj aq ar ak,Sl 366 [(2,iv n9),(3,iv n),(4,iv k),(5,iv C),(7,pt V),(13,pt W),(14,pt aZ),(15,pt af),(16,pt N),(19,pt be),(95,sl (ad aO) U.length U),(96,iv (U.length:Int)),(97,iv ai.2.2),(108,sl (ad au) (a7y B m c).length (a7y B m c)),(109,iv ((a7y B m c).length:Int)),(110,iv 0)] a∧Wd ⟨w0,S0,[]⟩ bH [.box V (C43 c p6 k7) 43,.box W (C94 m.2 ak aj) 94,.box aZ (C65 b.1 p55 t p58 R) 65,.box af [sl p55 t b.1.Base.Channels,sl z x f] 65,.box N [sl E D o.1.Channels] 29,.box be [sl aM aL aN.Channels] 29,.row z f.length x ah 43 14,.row (ad aO) U.length U.length aP 29 1,.row (ad au) (a7y B m c).length (a7y B m c).length (E8_1 B aq ao m ar ap c p6 k7) 43 14] [Sq p6 k7 c.Epoch.Response.Stages,Sq ak aj m.2.L,Sq p55 t b.1.Base.Channels,Sq p58 R b.1.Changes,Sq E D o.1.Channels,Sq aM aL aN.Channels,j6 ah f,j6 aP U,j6 (E8_1 B aq ao m ar ap c p6 k7) (a7y B m c)] w) ?_ ?_
  ·refine h_c [0,1,3,4,5,6,7] [] d y y (by kernel_rfl) y fun hC d=>gn 6 [0,1,3,4,6,9] [4,4,1] s hC y y y fun a s=>ho 2 y ?_
   refine cR s (L6 fZ d.dom (d.ins [2] (by decide) y) (d.envAt 2 y) (d.envAt 5 y)) (j3 call13 y) y ?_
   rintro ju hJ w a f5 ⟨aq,ao,fM,g6,g3,rfl,f6,f0,f1⟩ s
   have d:=((d.callO [2] [0,1,3,4,5,6,7] (by decide) y f5 f6).addE (e:=j6 fM B.1.Epoch.Response.Stages) f0).addE (e:=Sq g6 g3 B.2.L) f1
   refine h_n [2,3,4,5,6,7,8] [] d y y fun hC=>ho 5 y ?_
   refine cR s (L6 f2 d.dom (d.ins [1] (by decide) y) (d.envAt 0 y) (d.envAt 7 y)) (j3 call13 y) y ?_
   rintro jv hK w a f7 ⟨ar,ap,fN,ak,aj,rfl,f8,f3,f4⟩ s
   have d:=((d.callO [1] [0,2,3,4,5,6,7,8] (by decide) y f7 f8).addE (e:=j6 fN m.1.Epoch.Response.Stages) f3).addE (e:=Sq ak aj m.2.L) f4
   refine h_n [3,4,5,6,7,8,9] [] d y y fun hC=>ho 7 y ?_
   obtain ⟨hL,d⟩:=C8 (α:=Stage) d 2 y 3 y
   obtain ⟨ds,d⟩:=C8 (α:=Stage) d 0 y 2 y
   refine q8 (α:=Change) (vs:=[V43 B.1 aq ao,V43 m.1 ar ap,V43 c p6 k7]) (cs:=(E8_1 B aq ao m ar ap c p6 k7)) (xs:=(a7y B m c)) s d a5R y y y y y y ⟨⟨_,_,_,_,_,_,_,_,_,_,_,_,_,_,y,y,y,y,y,y,y,y,y,y,y,y,y,y,⟨_,_,_,y,d.envAt 1 y⟩⟩,⟨⟨_,_,_,_,_,_,_,_,_,_,_,_,_,_,y,y,y,y,y,y,y,y,y,y,y,y,y,y,⟨_,_,_,y,d.envAt 0 y⟩⟩,⟨⟨_,_,_,_,_,_,_,_,_,_,_,_,_,_,y,y,y,y,y,y,y,y,y,y,y,y,y,y,⟨_,_,_,y,d.envAt 7 y⟩⟩,y⟩⟩⟩ y j8 y fun au a w s d=>h_n [2,3,4,5,6,7,8] [] d y y fun hC=>h_d [2,3,4,5,6,7,8,0] [] [0,1,2,3,4,5,6] [] d y y y y fun hC=>gv s 8 y y hC (fun w hC=>y_len C6 y) fun a s=>q9 (by kernel_rfl) ?_
   exact ⟨ds,au,ao,ap,aj,aq,ar,ak,wj s d [3,1,4,5,6,2,7,8,0] [8,3,10,11,12,7,13,14,0]⟩
  rintro a w ⟨bH,au,ao,ap,aj,aq,ar,ak,s,d⟩
  refine tn (m6 (u7 (fun b0 a w=>∃ cj,Sl 366 [(2,iv n9),(3,iv n),(4,iv k),(5,iv C),(7,pt V),(13,pt W),(14,pt aZ),(15,pt af),(16,pt N),(19,pt be),(95,sl (ad aO) U.length U),(96,iv (U.length:Int)),(97,iv ai.2.2),(108,sl (ad au) (a7y B m c).length (a7y B m c)),(109,iv ((a7y B m c).length:Int)),(110,iv b0)] a∧Wd ⟨w0,S0,[]⟩ cj [.box V (C43 c p6 k7) 43,.box W (C94 m.2 ak aj) 94,.box aZ (C65 b.1 p55 t p58 R) 65,.box af [sl p55 t b.1.Base.Channels,sl z x f] 65,.box N [sl E D o.1.Channels] 29,.box be [sl aM aL aN.Channels] 29,.row z f.length x ah 43 14,.row (ad aO) U.length U.length aP 29 1,.row (ad au) (a7y B m c).length (a7y B m c).length (E8_1 B aq ao m ar ap c p6 k7) 43 14] [Sq p6 k7 c.Epoch.Response.Stages,Sq ak aj m.2.L,Sq p55 t b.1.Base.Channels,Sq p58 R b.1.Changes,Sq E D o.1.Channels,Sq aM aL aN.Channels,j6 ah f,j6 aP U,j6 (E8_1 B aq ao m ar ap c p6 k7) (a7y B m c)] w) 0 u ⟨bH,wj s d [0,1,2,3,4,5,6,7,8] [0,1,2,3,4,5,6,7,8]⟩ ?_))
  repeat clear u
  rintro b0 a w iS ⟨cj,s,d⟩ u cE
  refine sz0 1 s y fun a s=>l3 (cd s u y (fun u=>?_) fun u=>?_)
  ·refine sk (l3 (m6 (sr ?_)))
   obtain ⟨dh,f9,u⟩:=bt u
   obtain ⟨jt,jh,c2,gb,gc,ga⟩:=d.elemRK (α:=Change) 8 y 8 y f9
   obtain ⟨_,_,_,_,_,_,_,_,_,_,_,_,_,_,rfl,rfl,rfl,rfl,rfl,rfl,rfl,rfl,rfl,rfl,rfl,rfl,rfl,rfl,⟨de,jn,db,rfl,c3⟩⟩:=ga
   obtain rfl:=c3.1
   have d:=d.addE (e:=SlA de _ db dh.Epoch.Response.Stages) c3
   refine sv s (o7 C6 A0 y y c2.1 c2.2 gb) y fun a s=>sv s (I4 (j:=0) (d.ownAt 8 y) y F1 A0 gc y y) y fun a s=>wa Z18 s d zeroValue43 fun jb a w s d=>ws (C43 dh de db) s d 0 y y y A0 fun a w s d=>nl (sn 2 [6,0] s d y y fun a s=>?_)
   obtain ⟨bY,gd,u⟩:=bt u
   refine cR s (a0p gd d.dom (d.envAt 6 y) (d.envAt 0 y)) (j3 call14 y) y ?_
   rintro jw hM w a gf ⟨g7,g4,fO,rfl,gg,ge⟩ s
   have d:=(d.callN gf gg).addE (e:=j6 fO bY.1.Channels) ge
   refine rn0 3 s y fun a s=>wa b3g s d zeroValue29 fun jc a w s d=>ws [sl g7 g4 bY.1.Channels] s d 0 y y y s9 fun a w s d=>rz0 1 s y fun a s=>sn 2 [8,2] s d y y fun a s=>?_
   obtain ⟨bZ,gh,u⟩:=bt u
   refine cR s (a0j gh d.dom (d.envAt 7 y) (d.envAt 1 y)) (j3 call33 y) y ?_
   rintro jx hN w a gj ⟨df,dc,rfl,gi⟩ s
   have d:=(d.call gj).addE (e:=Sq df dc bZ.1.Channels) gi
   refine rn0 3 s y fun a s=>wa b3g s d zeroValue29 fun jd a w s d=>ws [sl df dc bZ.1.Channels] s d 0 y y y s9 fun a w s d=>rz0 1 s y fun a s=>sn 2 [9,3] s d y y fun a s=>?_
   obtain ⟨a5,gk,u⟩:=bt u
   refine cR s (a9q gk d.dom (d.envAt 8 y) (d.envAt 2 y)) (j3 call31 y) y ?_
   rintro jy hO w a go ⟨dg,dd,rfl,gl⟩ s
   have d:=(d.call go).addE (e:=Sq dg dd a5.1.Epoch.Response.Stages) gl
   refine rn0 3 s y fun a s=>wa Z18 s d zeroValue43 fun je a w s d=>ws (C43 a5.1 dg dd) s d 0 y y y A0 fun a w s d=>rz0 1 s y fun a s=>sn 2 [10,4] s d y y fun a s=>?_
   obtain ⟨a6,gp,u⟩:=bt u
   refine cR s (b1i gp d.dom (d.envAt 9 y) (d.envAt 3 y)) (j3 call34 y) y ?_
   rintro jz hP w a gr ⟨g8,g5,fP,rfl,gs,gq⟩ s
   have d:=(d.callN gr gs).addE (e:=j6 fP a6.1.Epoch.Response.Stages) gq
   refine rn0 3 s y fun a s=>wa Z18 s d zeroValue43 fun jf a w s d=>ws (C43 a6.1 g8 g5) s d 0 y y y A0 fun a w s d=>rz0 1 s y fun a s=>l3 ?_
   obtain ⟨bI,d⟩:=C8 (α:=Channel) d 5 y 3 y
   obtain ⟨bB,cD,u⟩:=bt u
   obtain ⟨ce,bU,u⟩:=bt u
   obtain ⟨fQ,bl,u⟩:=bt u
   refine C7 (fun a w=>∃ bJ,Sl 366 [(2,iv n9),(3,iv n),(4,iv k),(5,iv C),(7,pt V),(13,pt W),(14,pt aZ),(15,pt af),(16,pt N),(19,pt be),(95,sl (ad aO) U.length U),(96,iv (U.length:Int)),(97,iv ai.2.2),(108,sl (ad au) (a7y B m c).length (a7y B m c)),(109,iv ((a7y B m c).length:Int)),(110,iv b0),(167,.bool fQ)] a∧Wd ⟨w0,S0,[]⟩ bJ [.box V (C43 c p6 k7) 43,.box W (C94 m.2 ak aj) 94,.box aZ (C65 b.1 p55 t p58 R) 65,.box af [sl p55 t b.1.Base.Channels,sl z x f] 65,.box N [sl E D o.1.Channels] 29,.box be [sl aM aL aN.Channels] 29,.row z f.length x ah 43 14,.row (ad aO) U.length U.length aP 29 1,.row (ad au) (a7y B m c).length (a7y B m c).length (E8_1 B aq ao m ar ap c p6 k7) 43 14] [Sq p6 k7 c.Epoch.Response.Stages,Sq ak aj m.2.L,Sq p55 t b.1.Base.Channels,Sq p58 R b.1.Changes,Sq E D o.1.Channels,Sq aM aL aN.Channels,j6 ah f,j6 aP U,j6 (E8_1 B aq ao m ar ap c p6 k7) (a7y B m c)] w) ?_ ?_
   ·rcases j0 (bY.2 != bZ.2) with aX | aX
    ·have c4:=D7 cD aX
     have cf:bB=true:=(Option.some.inj c4).symm
     have c5:(bB || (a5.2 != a6.2))=true:=by rw [cf];rfl
     have c6:=D7 bU c5
     have c7:ce=true:=(Option.some.inj c6).symm
     have gu:=D7 bl c7
     refine h_c [0,1,2,3,4,5,6,7,8,9,10,11,12,13,14] [] d y y (by kernel_rfl) y fun hC d=>gn 4 [0,1,2,3] [] s hC y y y fun a s=>?_
     have s:=s.bT 141 y aX
     refine gn 4 [4,5,6,7] [] s hC y y y fun a s=>gT s 8 y y hC y y c4 fun a s=>gm s 9 y y y hC fun a s=>?_
     have s:=s.bT 147 y cf
     refine gn 3 [10,11,12] [] s hC y y y fun a s=>gv s 13 y y hC (fun w hC=>a6H (v:=.bool (bB || (a5.2 != a6.2))) y y (or_t cf)) fun a s=>gm s 14 y y y hC fun a s=>?_
     have s:=s.bT 152 y c5
     refine gn 4 [15,16,17,18] [] s hC y y y fun a s=>gT s 19 y y hC y y c6 fun a s=>gm s 20 y y y hC fun a s=>?_
     have s:=s.bT 158 y c7
     refine gn 8 [21,22,23,24,25,26,27,28] [] s hC y y y fun a s=>gT s 29 y y hC y y gu fun a s=>q9 (by kernel_rfl) ?_
     exact ⟨bI,wj s d [6,7,8,9,10,11,12,13,14] [6,7,8,9,10,11,12,13,14]⟩
    have bj:=E8 cD aX
    obtain ⟨iN,cg,bj⟩:=K3 bj
    rcases j0 (bB || (a5.2 != a6.2)) with bf | bf
    ·have c8:=D7 bU bf
     have c9:ce=true:=(Option.some.inj c8).symm
     have gw:=D7 bl c9
     refine h_c [0,1,2,3,4,5,6,7,8,9,10,11,12,13,14] [] d y y (by kernel_rfl) y fun hC d=>gn 4 [0,1,2,3] [] s hC y y y fun a s=>?_
     have s:=s.bF 141 y aX
     refine gn 2 [4,5] [4,3] s hC y y y fun a s=>ho 6 y ?_
     refine x9 s (a3L cg d.bdom (d.bE 0 y) (d.bE 3 y)) (j3 call19 y) ⟨_,y,y⟩ y y ?_
     rintro jA hQ w a gy rfl s
     have d:=d.callB gy
     refine h_n [0,1,2,3,4,5,6,7,8,9,10,11,12,13,14] [] d y y fun hC=>gt s 7 y ⟨_,y,y⟩ y hC (fun w hC=>a5Z y) fun a s=>gF s 8 y y hC y y bj fun a s=>gm s 9 y y y hC fun a s=>gO 4 147 [10,11,12,13] [] s hC y y y y y y fun a s=>gm s 14 y y y hC fun a s=>?_
     have s:=s.bT 152 y bf
     refine gn 4 [15,16,17,18] [] s hC y y y fun a s=>gT s 19 y y hC y y c8 fun a s=>gm s 20 y y y hC fun a s=>?_
     have s:=s.bT 158 y c9
     refine gn 8 [21,22,23,24,25,26,27,28] [] s hC y y y fun a s=>gT s 29 y y hC y y gw fun a s=>q9 (by kernel_rfl) ?_
     exact ⟨bI,wj s d [6,7,8,9,10,11,12,13,14] [6,7,8,9,10,11,12,13,14]⟩
    have bC:=E8 bU bf
    obtain ⟨iO,da,bC⟩:=K3 bC
    rcases j0 ce with bk | bk
    ·have gz:=D7 bl bk
     refine h_c [0,1,2,3,4,5,6,7,8,9,10,11,12,13,14] [] d y y (by kernel_rfl) y fun hC d=>gn 4 [0,1,2,3] [] s hC y y y fun a s=>?_
     have s:=s.bF 141 y aX
     refine gn 2 [4,5] [4,3] s hC y y y fun a s=>ho 6 y ?_
     refine x9 s (a3L cg d.bdom (d.bE 0 y) (d.bE 3 y)) (j3 call19 y) ⟨_,y,y⟩ y y ?_
     rintro jB hR w a gA rfl s
     have d:=d.callB gA
     refine h_n [0,1,2,3,4,5,6,7,8,9,10,11,12,13,14] [] d y y fun hC=>gt s 7 y ⟨_,y,y⟩ y hC (fun w hC=>a5Z y) fun a s=>gF s 8 y y hC y y bj fun a s=>gm s 9 y y y hC fun a s=>gO 4 147 [10,11,12,13] [] s hC y y y y y y fun a s=>gm s 14 y y y hC fun a s=>?_
     have s:=s.bF 152 y bf
     refine gn 2 [15,16] [2,0] s hC y y y fun a s=>ho 17 y ?_
     refine x9 s (a3E da d.bdom (d.bE 2 y) (d.bRow 1 y 1 y)) (j3 call35 y) ⟨_,y,y⟩ y y ?_
     rintro jC hT w a gB rfl s
     have d:=d.callB gB
     refine h_n [0,1,2,3,4,5,6,7,8,9,10,11,12,13,14] [] d y y fun hC=>gt s 18 y ⟨_,y,y⟩ y hC (fun w hC=>a5Z y) fun a s=>gF s 19 y y hC y y bC fun a s=>gm s 20 y y y hC fun a s=>?_
     have s:=s.bT 158 y bk
     refine gn 8 [21,22,23,24,25,26,27,28] [] s hC y y y fun a s=>gT s 29 y y hC y y gz fun a s=>q9 (by kernel_rfl) ?_
     exact ⟨bI,wj s d [6,7,8,9,10,11,12,13,14] [6,7,8,9,10,11,12,13,14]⟩
    have aY:=E8 bl bk
    obtain ⟨fB,gC,aY⟩:=K3 aY
    obtain ⟨fC,gE,aY⟩:=K3 aY
    obtain ⟨iP,gH,aY⟩:=K3 aY
    refine h_c [0,1,2,3,4,5,6,7,8,9,10,11,12,13,14] [] d y y (by kernel_rfl) y fun hC d=>gn 4 [0,1,2,3] [] s hC y y y fun a s=>?_
    have s:=s.bF 141 y aX
    refine gn 2 [4,5] [4,3] s hC y y y fun a s=>ho 6 y ?_
    refine x9 s (a3L cg d.bdom (d.bE 0 y) (d.bE 3 y)) (j3 call19 y) ⟨_,y,y⟩ y y ?_
    rintro jD hU w a gI rfl s
    have d:=d.callB gI
    refine h_n [0,1,2,3,4,5,6,7,8,9,10,11,12,13,14] [] d y y fun hC=>gt s 7 y ⟨_,y,y⟩ y hC (fun w hC=>a5Z y) fun a s=>gF s 8 y y hC y y bj fun a s=>gm s 9 y y y hC fun a s=>gO 4 147 [10,11,12,13] [] s hC y y y y y y fun a s=>gm s 14 y y y hC fun a s=>?_
    have s:=s.bF 152 y bf
    refine gn 2 [15,16] [2,0] s hC y y y fun a s=>ho 17 y ?_
    refine x9 s (a3E da d.bdom (d.bE 2 y) (d.bRow 1 y 1 y)) (j3 call35 y) ⟨_,y,y⟩ y y ?_
    rintro jE hV w a gJ rfl s
    have d:=d.callB gJ
    refine h_n [0,1,2,3,4,5,6,7,8,9,10,11,12,13,14] [] d y y fun hC=>gt s 18 y ⟨_,y,y⟩ y hC (fun w hC=>a5Z y) fun a s=>gF s 19 y y hC y y bC fun a s=>gm s 20 y y y hC fun a s=>?_
    have s:=s.bF 158 y bk
    refine gn 4 [21,22,24,25] [11,4,11,3] s hC y y y fun a s=>ho 23 y ?_
    refine x9 s (a1d gC d.dom (d.envAt 11 y) (d.envAt 0 y)) (j3 call15 y) ⟨_,y,y⟩ y y ?_
    rintro jF hW w a gK ⟨jo,ji,fR,rfl,gL,gD⟩ s
    have d:=(d.callN gK gL).addE (e:=j6 fR fB) gD
    refine h_n [1,2,3,4,5,6,7,8,9,10,11,12,13,14,15] [] d y y fun hC=>h_d [1,2,3,4,5,6,7,8,9,10,11,12,13,14,15,0] [] [0,1,2,3,4,5,6,7,8,9,10,11,12,13,14] [] d y y y y fun hC=>ho 26 y ?_
    refine x9 s (a4O gE d.dom (d.envAt 12 y) (d.envAt 4 y)) (j3 call36 y) ⟨_,y,y⟩ y y ?_
    rintro jG dt w a gM ⟨jp,jj,fS,rfl,gN,gG⟩ s
    have d:=(d.callN gM gN).addE (e:=j6 fS fC) gG
    refine h_n [2,3,4,5,6,7,8,9,10,11,12,13,14,15,16,1] [] d y y fun hC=>h_d [2,3,4,5,6,7,8,9,10,11,12,13,14,15,16,1,0] [] [0,1,2,3,4,5,6,7,8,9,10,11,12,13,14,15] [] d y y y y fun hC=>ho 27 y ?_
    refine x9 s (a2C gH d.bdom (d.bRow 1 y 1 y) (d.bRow 0 y 0 y)) (j3 call28 y) ⟨_,y,y⟩ y y ?_
    rintro jH hX w a gP rfl s
    have d:=d.callB gP
    refine h_n [2,3,4,5,6,7,8,9,10,11,12,13,14,15,16,1,0] [] d y y fun hC=>gt s 28 y ⟨_,y,y⟩ y hC (fun w hC=>a5Z y) fun a s=>gF s 29 y y hC y y aY fun a s=>q9 (by kernel_rfl) ?_
    exact ⟨dt,wj s d [8,9,10,11,12,13,14,15,16] [8,9,10,11,12,13,14,15,16]⟩
   rintro a w ⟨bJ,s,d⟩
   refine tn (cd s u y (fun u=>?_) fun u=>?_)
   ·refine sz0 1 s y fun a s=>?_
    obtain rfl:=oi u
    have gQ:=cE _ y
    subst gQ
    have gR:=bV _ y
    subst gR
    exact t7 (o8 (j4 (j4 (o8 (j4 (o8 (j4 (j4 (o8 (j4 (rt s y (d.ret y))))))))))))
   refine D1 (l9 (tn (j9 (rz0 2 s y fun a s=>?_))))
   exact ⟨_,io u,bJ,wj s d [0,1,2,3,4,5,6,7,8] [0,1,2,3,4,5,6,7,8]⟩
  obtain ⟨iQ,u,ch⟩:=X5 u
  have ch:=(cE _ ch.symm).symm
  subst ch
  refine u0 (j5 (j5 (o9 (tn (l3 ?_)))))
  obtain ⟨fD,gS,u⟩:=bt u
  obtain ⟨fE,gV,u⟩:=bt u
  obtain ⟨fF,gX,u⟩:=bt u
  refine C7 (fun a w=>∃ bK,Sl 366 [(2,iv n9),(3,iv n),(4,iv k),(5,iv C),(7,pt V),(13,pt W),(14,pt aZ),(15,pt af),(16,pt N),(95,sl (ad aO) U.length U),(96,iv (U.length:Int)),(97,iv ai.2.2),(176,.bool (!fF))] a∧Wd ⟨w0,S0,[]⟩ bK [.box V (C43 c p6 k7) 43,.box W (C94 m.2 ak aj) 94,.box aZ (C65 b.1 p55 t p58 R) 65,.box af [sl p55 t b.1.Base.Channels,sl z x f] 65,.box N [sl E D o.1.Channels] 29,.row z f.length x ah 43 14,.row (ad aO) U.length U.length aP 29 1] [Sq p6 k7 c.Epoch.Response.Stages,Sq ak aj m.2.L,Sq p55 t b.1.Base.Channels,Sq p58 R b.1.Changes,Sq E D o.1.Channels,j6 ah f,j6 aP U] w) ?_ ?_
  ·refine h_c [0,1,2,3,4,5,6,7,8] [] d y y (by kernel_rfl) y fun hC d=>gn 4 [0,1,3,4] [5,4,5,4] s hC y y y fun a s=>ho 2 y ?_
   refine cR s (a1d gS d.dom (d.envAt 5 y) (d.envAt 4 y)) (j3 call15 y) y ?_
   rintro jI hY w a gY ⟨jq,jk,fT,rfl,gZ,gU⟩ s
   have d:=(d.callN gY gZ).addE (e:=j6 fT fD) gU
   refine h_n [1,2,3,4,5,6,7,8,9] [] d y y fun hC=>h_d [1,2,3,4,5,6,7,8,9,0] [] [0,1,2,3,4,5,6,7,8] [] d y y y y fun hC=>ho 5 y ?_
   refine cR s (a4O gV d.dom (d.envAt 6 y) (d.envAt 5 y)) (j3 call36 y) y ?_
   rintro jJ du w a g0 ⟨jr,jl,fU,rfl,g1,gW⟩ s
   have d:=(d.callN g0 g1).addE (e:=j6 fU fE) gW
   refine h_n [2,3,4,5,6,7,8,9,10,1] [] d y y fun hC=>h_d [2,3,4,5,6,7,8,9,10,1,0] [] [0,1,2,3,4,5,6,7,8,9] [] d y y y y fun hC=>ho 6 y ?_
   refine cV s d (a2C gX d.bdom (d.bRow 1 y 1 y) (d.bRow 0 y 0 y)) (j3 call28 y) y fun a w s d=>h_n [2,3,4,5,6,7,8,9,10,1,0] [] d y y fun hC=>gv s 7 y y hC (fun w hC=>a5Z y) fun a s=>q9 (by kernel_rfl) ?_
   exact ⟨du,wj s d [2,3,4,5,6,8,9] [2,3,4,5,6,8,9]⟩
  rintro a w ⟨bK,s,d⟩
  refine tn (cd s u y (fun u=>?_) fun u=>?_)
  ·refine sz0 1 s y fun a s=>?_
   obtain rfl:=oi u
   have g2:=bV _ y
   subst g2
   exact t7 (o8 (j4 (j4 (o8 (j4 (rt s y (d.ret y)))))))
  refine D1 (l9 (tn (j9 (rz0 2 s y fun a s=>?_))))
  exact ⟨_,io u,ak,aj,bK,wj s d [0,1,2,3,4,5,6] [0,1,2,3,4,5,6]⟩
 obtain ⟨hE,u,bS⟩:=X5 u
 have bS:=(bV _ bS.symm).symm
 subst bS
 refine u0 (j5 (j5 (o9 (tn (l3 (sn 2 [2,3] s d y y fun a s=>?_))))))
 obtain ⟨dv,d⟩:=C8 (α:=Change) d 5 y 5 y
 refine q8 (α:=History) (vs:=[V65 b.1 p55 t p58 R,.agg #[sl p55 t b.1.Base.Channels,sl z x f]]) (cs:=(a5j p55 t b p58 R z x f)) (xs:=(Q3 b f)) s d El86 y y y y y y ⟨⟨_,_,y,⟨_,_,_,y,d.envAt 3 y⟩,⟨_,_,_,y,d.envAt 4 y⟩⟩,⟨⟨_,_,y,⟨_,_,_,y,d.envAt 3 y⟩,⟨_,_,_,y,d.envAt 0 y⟩⟩,y⟩⟩ y j8 y fun Q a w s d=>rz0 2 s y fun a s=>m6 (u7 (fun T a w=>∃ bn bm bL,Sl 366 [(2,iv n9),(3,iv n),(4,iv k),(5,iv C),(7,pt V),(13,pt W),(16,pt N),(180,sl (ad Q) (Q3 b f).length (Q3 b f)),(181,iv ((Q3 b f).length:Int)),(182,iv T.2.2)] a∧Wd ⟨w0,S0,[]⟩ bL [.box V (C43 c p6 k7) 43,.box W [sl bn bm T.1,iv T.2.1] 94,.box N [sl E D o.1.Channels] 29,.row (ad Q) (Q3 b f).length (Q3 b f).length (a5j p55 t b p58 R z x f) 65 2] [Sq p6 k7 c.Epoch.Response.Stages,Sq bn bm T.1,Sq E D o.1.Channels,j6 (a5j p55 t b p58 R z x f) (Q3 b f)] w) (ai.1,ai.2.1,0) u ⟨bG,bD,dv,wj s d [1,2,5,0] [2,3,6,0]⟩ ?_)
 repeat clear u
 rintro T a w hF ⟨bn,bm,bL,s,d⟩ u av
 refine sz0 1 s y fun a s=>l3 (cd s u y (fun u=>?_) fun u=>?_)
 ·refine sk (l3 (m6 (sr ?_)))
  obtain ⟨l,dC,u⟩:=bt u
  obtain ⟨iH,h6,co,dE,dF,dD⟩:=d.elemRK (α:=History) 3 y 3 y dC
  obtain ⟨_,_,rfl,⟨H,iB,F,rfl,cp⟩,⟨I,iC,G,rfl,cq⟩⟩:=dD
  obtain rfl:=cp.1
  have d:=d.addE (e:=SlA H _ F l.Base.Channels) cp
  obtain rfl:=cq.1
  have d:=d.addE (e:=SlA I _ G l.Changes) cq
  refine sv s (o7 N6 C1 y y co.1 co.2 dE) y fun a s=>sv s (I4 (j:=0) (d.ownAt 3 y) y H4 C1 dF y y) y fun a s=>wa Z21 s d zeroValue65 fun M a w s d=>ws (C65 l H F I G) s d 0 y y y C1 fun a w s d=>nl (l3 (l3 ?_))
  obtain ⟨dl,dG,u⟩:=bt u
  obtain ⟨dm,dH,u⟩:=bt u
  refine C7 (fun a w=>∃ b1,Sl 366 [(2,iv n9),(3,iv n),(4,iv k),(5,iv C),(7,pt V),(13,pt W),(16,pt N),(31,pt M),(180,sl (ad Q) (Q3 b f).length (Q3 b f)),(181,iv ((Q3 b f).length:Int)),(182,iv T.2.2),(190,.bool (!(dl == dm)))] a∧Wd ⟨w0,S0,[]⟩ b1 [.box V (C43 c p6 k7) 43,.box W [sl bn bm T.1,iv T.2.1] 94,.box N [sl E D o.1.Channels] 29,.box M (C65 l H F I G) 65,.row (ad Q) (Q3 b f).length (Q3 b f).length (a5j p55 t b p58 R z x f) 65 2] [Sq p6 k7 c.Epoch.Response.Stages,Sq bn bm T.1,Sq E D o.1.Channels,Sq H F l.Base.Channels,Sq I G l.Changes,j6 (a5j p55 t b p58 R z x f) (Q3 b f)] w) ?_ ?_
  ·refine h_c [0,1,2,3,4] [] d y y (by kernel_rfl) y fun hC d=>gn 2 [0,2] [0,0] s hC y y y fun a s=>ho 1 y ?_
   refine cV s d (a6Q dG d.bdom (d.bE 1 y) (d.bE 0 y)) (j3 call32 y) y fun a w s d=>h_n [0,1,2,3,4] [] d y y fun hC=>ho 3 y ?_
   refine cV s d (a6C dH d.bdom (d.bE 1 y) (d.bE 0 y)) (j3 call37 y) y fun a w s d=>h_n [0,1,2,3,4] [] d y y fun hC=>gv s 4 y y hC (fun w hC=>y_neqB runUnderlying4 y y) fun a s=>q9 (by kernel_rfl) ?_
   exact ⟨bL,wj s d [1,2,3,0,4] [2,3,4,1,0,5]⟩
  rintro a w ⟨b1,s,d⟩
  refine tn (cd s u y (fun u=>?_) fun u=>?_)
  ·refine sz0 1 s y fun a s=>?_
   obtain rfl:=oi u
   have dI:=av _ y
   subst dI
   exact t7 (j4 (o8 (j4 (j4 (o8 (j4 (rt s y (d.ret y))))))))
  refine sk (l3 (sn0 2 s y fun a s=>?_))
  refine sv s (A8 (vs:=[(0,iv n9),(1,iv n)]) Bld87 y y) y fun a s=>mv s y y fun a s=>?_
  obtain ⟨i,dJ,u⟩:=bt u
  refine cR s (u6 dJ d.dom (d.ins [1] (by decide) y) (d.envAt 1 y)) (j3 call23 y) y ?_
  rintro iT hj w a dL ⟨fu,fo,rfl,dM,dK⟩ s
  have d:=(d.callO [1] [0,2,3,4] (by decide) y dL dM).addE (e:=Sq fu fo i.2.L) dK
  refine rn0 2 s y fun a s=>?_
  obtain ⟨g,dN,u⟩:=bt u
  refine cR s (u6 dN d.dom (d.ins [0] (by decide) y) (d.envAt 0 y)) (j3 call23 y) y ?_
  rintro iU di w a dP ⟨cJ,cF,rfl,dQ,dO⟩ s
  have d:=(d.callO [0] [1,2,3,4] (by decide) y dP dQ).addE (e:=Sq cJ cF g.2.L) dO
  refine sv s (A8 (vs:=[(0,iv (w64 (i.1 - 1))),(1,iv g.1)]) Bld87 y y) y fun a s=>q8 (α:=(Arr2 Int)) (vs:=[.agg #[iv n9,iv n],.agg #[iv (w64 (i.1 - 1)),iv g.1]]) (cs:=(a7j n9 n i g)) (xs:=(a2A n9 n i g)) s d El88 y y y y y y ⟨⟨_,_,y,y,y⟩,⟨⟨_,_,y,y,y⟩,y⟩⟩ y j8 y fun ae a w s d=>rz0 2 s y fun a s=>m6 (u7 (fun S a w=>∃ aH aB b2,Sl 366 [(2,iv n9),(3,iv n),(4,iv k),(5,iv C),(7,pt V),(13,pt W),(16,pt N),(31,pt M),(180,sl (ad Q) (Q3 b f).length (Q3 b f)),(181,iv ((Q3 b f).length:Int)),(182,iv T.2.2),(200,sl (ad ae) (a2A n9 n i g).length (a2A n9 n i g)),(201,iv ((a2A n9 n i g).length:Int)),(202,iv S.2.2)] a∧Wd ⟨w0,S0,[]⟩ b2 [.box V (C43 c p6 k7) 43,.box W [sl aH aB S.1,iv S.2.1] 94,.box N [sl E D o.1.Channels] 29,.box M (C65 l H F I G) 65,.row (ad Q) (Q3 b f).length (Q3 b f).length (a5j p55 t b p58 R z x f) 65 2,.row (ad ae) (a2A n9 n i g).length (a2A n9 n i g).length (a7j n9 n i g) 87 2] [Sq p6 k7 c.Epoch.Response.Stages,Sq aH aB S.1,Sq E D o.1.Channels,Sq H F l.Base.Channels,Sq I G l.Changes,j6 (a5j p55 t b p58 R z x f) (Q3 b f),j6 (a7j n9 n i g) (a2A n9 n i g)] w) (g.2.L,g.2.At,0) u ⟨cJ,cF,di,wj s d [2,1,3,4,5,0] [3,1,5,6,7,8,0]⟩ ?_)
  repeat clear u
  rintro S a w dr ⟨aH,aB,b2,s,d⟩ u bu
  refine sz0 1 s y fun a s=>l3 (cd s u y (fun u=>?_) fun u=>?_)
  ·refine sk (l3 (m6 (sr ?_)))
   obtain ⟨cN,dR,u⟩:=bt u
   obtain ⟨iI,h7,cr,dT,dU,dS⟩:=d.elemRK (α:=(Arr2 Int)) 5 y 6 y dR
   obtain ⟨_,_,rfl,rfl,rfl⟩:=dS
   refine sv s (o7 K0 N4 y y cr.1 cr.2 dT) y fun a s=>sv s (I4 (j:=0) (d.ownAt 5 y) y isAgg87 N4 dU y y) y fun a s=>wa [iv 0,iv 0] s d zeroValue87 fun hZ a w s d=>ws [iv cN.e0,iv cN.e1] s d 0 y y y N4 fun a w s d=>nl (sn 1 [4] s d y y fun a s=>?_)
   refine sv s (M6 (q:=0) E1 m8 y y (by decide) (by decide) y) y fun a s=>sv s (P6 (d.ownAt 0 y) y s8 y) y fun a s=>?_
   obtain ⟨bw,dV,u⟩:=bt u
   refine cR s (a1A dV d.dom (d.envAt 3 y) (d.envAt 4 y)) (j3 call30 y) y ?_
   rintro iV hk w a dX ⟨fv,fp,dy,rfl,dY,dW⟩ s
   have d:=(d.callN dX dY).addE (e:=j6 dy bw.1.Channels) dW
   refine rn0 3 s y fun a s=>wa b3g s d zeroValue29 fun h0 a w s d=>ws [sl fv fp bw.1.Channels] s d 0 y y y s9 fun a w s d=>rz0 1 s y fun a s=>sn 1 [6] s d y y fun a s=>sv s (M6 (q:=0) E1 m8 y y (by decide) (by decide) y) y fun a s=>sv s (P6 (d.ownAt 2 y) y s8 y) y fun a s=>?_
   obtain ⟨bx,dZ,u⟩:=bt u
   refine cR s (a1J dZ d.dom (d.envAt 4 y) (d.envAt 5 y)) (j3 call22 y) y ?_
   rintro iW hl w a d1 ⟨cK,cG,rfl,d0⟩ s
   have d:=(d.call d1).addE (e:=Sq cK cG bx.1.Channels) d0
   refine rn0 3 s y fun a s=>wa b3g s d zeroValue29 fun h1 a w s d=>ws [sl cK cG bx.1.Channels] s d 0 y y y s9 fun a w s d=>rz0 1 s y fun a s=>sn 1 [7] s d y y fun a s=>sv s (M6 (q:=0) E1 m8 y y (by decide) (by decide) y) y fun a s=>sv s (P6 (d.ownAt 3 y) y s8 y) y fun a s=>sv s (M6 (q:=1) E1 m8 y y (by decide) (by decide) y) y fun a s=>sv s (P6 (d.ownAt 3 y) y s8 y) y fun a s=>?_
   obtain ⟨aw,d2,u⟩:=bt u
   refine cR s (a9p d2 d.dom (d.envAt 5 y) (d.envAt 6 y)) (j3 call27 y) y ?_
   rintro iX hm w a d4 ⟨cL,cH,bM,rfl,d5,d3⟩ s
   have d:=(d.callN d4 d5).addE (e:=j6 bM aw.1) d3
   refine rz0 5 s y fun a s=>sn 1 [8] s d y y fun a s=>sv s (M6 (q:=0) E1 m8 y y (by decide) (by decide) y) y fun a s=>sv s (P6 (d.ownAt 4 y) y s8 y) y fun a s=>sv s (M6 (q:=1) E1 m8 y y (by decide) (by decide) y) y fun a s=>sv s (P6 (d.ownAt 4 y) y s8 y) y fun a s=>?_
   obtain ⟨P,d6,u⟩:=bt u
   refine cR s (b1h d6 d.dom (d.envAt 6 y) (d.envAt 7 y)) (j3 call38 y) y ?_
   rintro iY b3 w a d8 ⟨an,am,ag,rfl,d9,d7⟩ s
   have d:=(d.callN d8 d9).addE (e:=j6 ag P.1) d7
   refine rz0 5 s y fun a s=>l3 (sn0 4 s y fun a s=>?_)
   obtain ⟨cm,b8,u⟩:=bt u
   refine y7 5 (fun a w=>∃ bb,Sl 366 [(2,iv n9),(3,iv n),(4,iv k),(5,iv C),(7,pt V),(13,pt W),(16,pt N),(31,pt M),(38,sl cL cH aw.1),(39,iv aw.2),(40,sl an am P.1),(41,iv P.2),(180,sl (ad Q) (Q3 b f).length (Q3 b f)),(181,iv ((Q3 b f).length:Int)),(182,iv T.2.2),(200,sl (ad ae) (a2A n9 n i g).length (a2A n9 n i g)),(201,iv ((a2A n9 n i g).length:Int)),(202,iv S.2.2),(246,.bool cm)] a∧Wd ⟨w0,S0,[]⟩ bb [.box V (C43 c p6 k7) 43,.box W [sl aH aB S.1,iv S.2.1] 94,.box N [sl E D o.1.Channels] 29,.box M (C65 l H F I G) 65,.row cL aw.1.length cH bM 56 5,.row an P.1.length am ag 56 5,.row (ad Q) (Q3 b f).length (Q3 b f).length (a5j p55 t b p58 R z x f) 65 2,.row (ad ae) (a2A n9 n i g).length (a2A n9 n i g).length (a7j n9 n i g) 87 2] [Sq p6 k7 c.Epoch.Response.Stages,Sq aH aB S.1,Sq E D o.1.Channels,Sq H F l.Base.Channels,Sq I G l.Changes,j6 bM aw.1,j6 ag P.1,j6 (a5j p55 t b p58 R z x f) (Q3 b f),j6 (a7j n9 n i g) (a2A n9 n i g)] w) ?_ ?_
   ·rcases j0 (bw.2 != bx.2) with a0 | a0
    ·have s:=s.bT 241 y a0
     have u:=D7 b8 a0
     refine rn0 5 s y fun a s=>l4 ?_
     obtain rfl:=oi u
     exact tn ⟨b3,wj s d [6,7,8,9,1,0,10,11] [4,5,6,7,8,1,0,9,10]⟩
    have s:=s.bF 241 y a0
    have u:=E8 b8 a0
    refine rn 2 [3,2] s d y y fun a s=>?_
    obtain ⟨hu,ea,u⟩:=bt u
    refine x9 s (a3L ea d.bdom (d.bRow 4 y 3 y) (d.bE 2 y)) (j3 call19 y) ⟨_,y,y⟩ y y ?_
    rintro iZ hn w a eb rfl s
    have d:=d.callB eb
    refine rn0 2 s y fun a s=>l4 ?_
    obtain rfl:=oi u
    exact tn ⟨b3,wj s d [6,7,8,9,1,0,10,11] [4,5,6,7,8,1,0,9,10]⟩
   rintro a w ⟨bb,s,d⟩
   refine mv s y y fun a s=>rO 4 247 [] s d y y y y y fun a s=>mv s y y fun a s=>?_
   obtain ⟨dz,b9,u⟩:=bt u
   refine y7 5 (fun a w=>∃ b4,Sl 366 [(2,iv n9),(3,iv n),(4,iv k),(5,iv C),(7,pt V),(13,pt W),(16,pt N),(31,pt M),(40,sl an am P.1),(180,sl (ad Q) (Q3 b f).length (Q3 b f)),(181,iv ((Q3 b f).length:Int)),(182,iv T.2.2),(200,sl (ad ae) (a2A n9 n i g).length (a2A n9 n i g)),(201,iv ((a2A n9 n i g).length:Int)),(202,iv S.2.2),(257,.bool dz)] a∧Wd ⟨w0,S0,[]⟩ b4 [.box V (C43 c p6 k7) 43,.box W [sl aH aB S.1,iv S.2.1] 94,.box N [sl E D o.1.Channels] 29,.box M (C65 l H F I G) 65,.row an P.1.length am ag 56 5,.row (ad Q) (Q3 b f).length (Q3 b f).length (a5j p55 t b p58 R z x f) 65 2,.row (ad ae) (a2A n9 n i g).length (a2A n9 n i g).length (a7j n9 n i g) 87 2] [Sq p6 k7 c.Epoch.Response.Stages,Sq aH aB S.1,Sq E D o.1.Channels,Sq H F l.Base.Channels,Sq I G l.Changes,j6 ag P.1,j6 (a5j p55 t b p58 R z x f) (Q3 b f),j6 (a7j n9 n i g) (a2A n9 n i g)] w) ?_ ?_
   ·rcases j0 (cm || (aw.2 != P.2)) with a1 | a1
    ·have s:=s.bT 252 y a1
     have u:=D7 b9 a1
     refine rn0 5 s y fun a s=>l4 ?_
     obtain rfl:=oi u
     exact tn ⟨bb,wj s d [0,1,2,3,5,6,7] [0,1,2,3,4,6,7,8]⟩
    have s:=s.bF 252 y a1
    have u:=E8 b9 a1
    refine rn0 2 s y fun a s=>?_
    obtain ⟨hv,ec,u⟩:=bt u
    refine x9 s (a2C ec d.bdom (d.bRow 4 y 5 y) (d.bRow 5 y 6 y)) (j3 call28 y) ⟨_,y,y⟩ y y ?_
    rintro i0 hp w a ed rfl s
    have d:=d.callB ed
    refine rn0 2 s y fun a s=>l4 ?_
    obtain rfl:=oi u
    exact tn ⟨bb,wj s d [0,1,2,3,5,6,7] [0,1,2,3,4,6,7,8]⟩
   rintro a w ⟨b4,s,d⟩
   refine nl (cd s u y (fun u=>?_) fun u=>?_)
   ·refine sz0 1 s y fun a s=>?_
    obtain rfl:=oi u
    have ee:=bu _ y
    subst ee
    have ef:=av _ y
    subst ef
    exact t7 (j4 (o8 (j4 (j4 (o8 (j4 (o8 (j4 (j4 (o8 (j4 (rt s y (d.ret y)))))))))))))
   refine sk (sn0 1 s y fun a s=>?_)
   obtain ⟨al,eg,u⟩:=bt u
   refine cR s (a6g eg d.dom (d.ins [1] (by decide) y) (d.envAt 1 y)) (j3 call25 y) y ?_
   rintro i1 b5 w a ei ⟨bX,bW,rfl,ej,eh⟩ s
   have d:=(d.callO [1] [0,2,3,4,5,6] (by decide) y ei ej).addE (e:=Sq bX bW al.2.L) eh
   refine wa Z3 s d zeroValue32 fun aQ a w s d=>ws (C32 al.1) s d 0 y y y s6 fun a w s d=>nl (l3 (sz0 3 s y fun a s=>?_))
   refine A7 (fun a w=>∃ (a7:ByteArray) (a8:ByteArray) (a9:ByteArray) (ba:ByteArray) (b6:_),X7 k C S P al a7 a8 a9 ba=some dr∧Sl 366 [(2,iv n9),(3,iv n),(4,iv k),(5,iv C),(7,pt V),(13,pt W),(16,pt N),(31,pt M),(40,sl an am P.1),(42,pt aQ),(180,sl (ad Q) (Q3 b f).length (Q3 b f)),(181,iv ((Q3 b f).length:Int)),(182,iv T.2.2),(200,sl (ad ae) (a2A n9 n i g).length (a2A n9 n i g)),(201,iv ((a2A n9 n i g).length:Int)),(202,iv S.2.2)] a∧Wd ⟨w0,S0,[]⟩ b6 [.box V (C43 c p6 k7) 43,.box W (C94 al.2 bX bW) 94,.box N [sl E D o.1.Channels] 29,.box M (C65 l H F I G) 65,.box aQ [.string a7,.string a8,.string a9,.string ba] 32,.row an P.1.length am ag 56 5,.row (ad Q) (Q3 b f).length (Q3 b f).length (a5j p55 t b p58 R z x f) 65 2,.row (ad ae) (a2A n9 n i g).length (a2A n9 n i g).length (a7j n9 n i g) 87 2] [Sq p6 k7 c.Epoch.Response.Stages,Sq bX bW al.2.L,Sq E D o.1.Channels,Sq H F l.Base.Channels,Sq I G l.Changes,j6 ag P.1,j6 (a5j p55 t b p58 R z x f) (Q3 b f),j6 (a7j n9 n i g) (a2A n9 n i g)] w) ?_ ?_
   ·refine cd s u y (fun u=>?_) fun u=>?_
    ·refine j9 (mv s y y fun a s=>?_)
     obtain ⟨aW,eC,u⟩:=bt u
     obtain ⟨h3,fA,ia,eG,cu,eE,eF,eD⟩:=d.elemRV (α:=Affected) 5 y 6 y eC
     have cS:=s
     have cW:=d
     subst eG
     have s:=cS
     have d:=cW
     obtain ⟨_,_,_,_,_,rfl,rfl,rfl,rfl,rfl,⟨fx,iD,fr,rfl,cv⟩⟩:=eD
     obtain rfl:=cv.1
     have d:=d.addE (e:=SlA fx _ fr aW.Spans) cv
     refine sv s (o7 C3 G2 y y cu.1 cu.2 eE) y fun a s=>sv s (l7 (o':=fA+0) C2 y s6 y y y) y fun a s=>sv s (I4 (j:=0) (d.ownAt 5 y) y B9 s6 eF y y) y fun a s=>ws (C32 aW.Source) s d 0 y y y s6 fun a w s d=>nl ⟨aW.Source.Network,aW.Source.Station,aW.Source.Location,aW.Source.Channel,b5,u,wj s d [2,1,3,4,0,5,6,7] [2,1,4,5,6,7,8,9]⟩
    exact sk ⟨al.1.Network,al.1.Station,al.1.Location,al.1.Channel,b5,u,wj s d [2,1,3,4,0,5,6,7] [1,0,3,4,5,6,7,8]⟩
   rintro a w ⟨a7,a8,a9,ba,b6,u,s,d⟩
   refine tn (sn0 2 s y fun a s=>?_)
   refine sv s (A8 (vs:=[(0,iv k),(1,iv C)]) Bld87 y y) y fun a s=>mv s y y fun a s=>?_
   obtain ⟨K,ek,u⟩:=bt u
   refine cR s (u6 ek d.dom (d.ins [1] (by decide) y) (d.envAt 1 y)) (j3 call23 y) y ?_
   rintro i2 hq w a em ⟨fw,fq,rfl,eo,el⟩ s
   have d:=(d.callO [1] [0,2,3,4,5,6,7] (by decide) y em eo).addE (e:=Sq fw fq K.2.L) el
   refine rn0 3 s y fun a s=>?_
   obtain ⟨A,ep,u⟩:=bt u
   refine cR s (u6 ep d.dom (d.ins [0] (by decide) y) (d.envAt 0 y)) (j3 call23 y) y ?_
   rintro i3 dj w a er ⟨aU,aT,rfl,es,eq⟩ s
   have d:=(d.callO [0] [1,2,3,4,5,6,7] (by decide) y er es).addE (e:=Sq aU aT A.2.L) eq
   refine rn0 2 s y fun a s=>sv s (A8 (vs:=[(0,iv (w64 (1000000000000+(w64 (1000 * K.1))))),(1,iv (w64 (1000000000000+(w64 (1000 * A.1)))))]) Bld87 y y) y fun a s=>q8 (α:=(Arr2 Int)) (vs:=[.agg #[iv k,iv C],.agg #[iv (w64 (1000000000000+(w64 (1000 * K.1)))),iv (w64 (1000000000000+(w64 (1000 * A.1))))]]) (cs:=(E8_8 k C K A)) (xs:=(b0T k C K A)) s d El88 y y y y y y ⟨⟨_,_,y,y,y⟩,⟨⟨_,_,y,y,y⟩,y⟩⟩ y j8 y fun bi a w s d=>rz0 2 s y fun a s=>m6 (u7 (fun bz a w=>∃ bc,Sl 366 [(2,iv n9),(3,iv n),(4,iv k),(5,iv C),(7,pt V),(13,pt W),(16,pt N),(31,pt M),(40,sl an am P.1),(42,pt aQ),(180,sl (ad Q) (Q3 b f).length (Q3 b f)),(181,iv ((Q3 b f).length:Int)),(182,iv T.2.2),(200,sl (ad ae) (a2A n9 n i g).length (a2A n9 n i g)),(201,iv ((a2A n9 n i g).length:Int)),(202,iv S.2.2),(279,sl (ad bi) (b0T k C K A).length (b0T k C K A)),(280,iv ((b0T k C K A).length:Int)),(281,iv bz)] a∧Wd ⟨w0,S0,[]⟩ bc [.box V (C43 c p6 k7) 43,.box W (C94 A.2 aU aT) 94,.box N [sl E D o.1.Channels] 29,.box M (C65 l H F I G) 65,.box aQ [.string a7,.string a8,.string a9,.string ba] 32,.row an P.1.length am ag 56 5,.row (ad Q) (Q3 b f).length (Q3 b f).length (a5j p55 t b p58 R z x f) 65 2,.row (ad ae) (a2A n9 n i g).length (a2A n9 n i g).length (a7j n9 n i g) 87 2,.row (ad bi) (b0T k C K A).length (b0T k C K A).length (E8_8 k C K A) 87 2] [Sq p6 k7 c.Epoch.Response.Stages,Sq aU aT A.2.L,Sq E D o.1.Channels,Sq H F l.Base.Channels,Sq I G l.Changes,j6 ag P.1,j6 (a5j p55 t b p58 R z x f) (Q3 b f),j6 (a7j n9 n i g) (a2A n9 n i g),j6 (E8_8 k C K A) (b0T k C K A)] w) 0 u ⟨dj,wj s d [2,1,3,4,5,6,7,8,0] [3,1,5,6,7,8,9,10,0]⟩ ?_)
   repeat clear u
   rintro bz a w hG ⟨bc,s,d⟩ u cb
   refine sz0 1 s y fun a s=>l3 (cd s u y (fun u=>?_) fun u=>?_)
   ·refine sk (l3 (m6 (sr ?_)))
    obtain ⟨cO,et,u⟩:=bt u
    obtain ⟨iJ,h9,ct,ev,ew,eu⟩:=d.elemRK (α:=(Arr2 Int)) 8 y 8 y et
    obtain ⟨_,_,rfl,rfl,rfl⟩:=eu
    refine sv s (o7 K0 N4 y y ct.1 ct.2 ev) y fun a s=>sv s (I4 (j:=0) (d.ownAt 8 y) y isAgg87 N4 ew y y) y fun a s=>wa [iv 0,iv 0] s d zeroValue87 fun h2 a w s d=>ws [iv cO.e0,iv cO.e1] s d 0 y y y N4 fun a w s d=>nl (l3 ?_)
    obtain ⟨dn,ex,u⟩:=bt u
    obtain ⟨dp,ey,u⟩:=bt u
    refine C7 (fun a w=>∃ bo,Sl 366 [(2,iv n9),(3,iv n),(4,iv k),(5,iv C),(7,pt V),(13,pt W),(16,pt N),(31,pt M),(40,sl an am P.1),(42,pt aQ),(180,sl (ad Q) (Q3 b f).length (Q3 b f)),(181,iv ((Q3 b f).length:Int)),(182,iv T.2.2),(200,sl (ad ae) (a2A n9 n i g).length (a2A n9 n i g)),(201,iv ((a2A n9 n i g).length:Int)),(202,iv S.2.2),(279,sl (ad bi) (b0T k C K A).length (b0T k C K A)),(280,iv ((b0T k C K A).length:Int)),(281,iv bz),(299,.bool (!(dn == dp)))] a∧Wd ⟨w0,S0,[]⟩ bo [.box V (C43 c p6 k7) 43,.box W (C94 A.2 aU aT) 94,.box N [sl E D o.1.Channels] 29,.box M (C65 l H F I G) 65,.box aQ [.string a7,.string a8,.string a9,.string ba] 32,.row an P.1.length am ag 56 5,.row (ad Q) (Q3 b f).length (Q3 b f).length (a5j p55 t b p58 R z x f) 65 2,.row (ad ae) (a2A n9 n i g).length (a2A n9 n i g).length (a7j n9 n i g) 87 2,.row (ad bi) (b0T k C K A).length (b0T k C K A).length (E8_8 k C K A) 87 2] [Sq p6 k7 c.Epoch.Response.Stages,Sq aU aT A.2.L,Sq E D o.1.Channels,Sq H F l.Base.Channels,Sq I G l.Changes,j6 ag P.1,j6 (a5j p55 t b p58 R z x f) (Q3 b f),j6 (a7j n9 n i g) (a2A n9 n i g),j6 (E8_8 k C K A) (b0T k C K A)] w) ?_ ?_
    ·refine h_c [0,1,2,3,4,5,6,7,8,9] [] d y y (by kernel_rfl) y fun hC d=>gn 2 [0,1] [5] s hC y y y fun a s=>gv s 2 y y hC (fun w hC=>M6 (q:=0) E1 m8 y y (by decide) (by decide) y) fun a s=>gv s 3 y y hC (fun w hC=>P6 (hC.ownAt 0 y) y s8 y) fun a s=>gv s 4 y y hC (fun w hC=>M6 (q:=1) E1 m8 y y (by decide) (by decide) y) fun a s=>gn 3 [5,7,8] [0,5] s hC y y y fun a s=>gv s 9 y y hC (fun w hC=>M6 (q:=0) E1 m8 y y (by decide) (by decide) y) fun a s=>gv s 10 y y hC (fun w hC=>P6 (hC.ownAt 0 y) y s8 y) fun a s=>gv s 11 y y hC (fun w hC=>M6 (q:=1) E1 m8 y y (by decide) (by decide) y) fun a s=>gv s 12 y y hC (fun w hC=>P6 (hC.ownAt 0 y) y s8 y) fun a s=>ho 6 y ?_
     refine cV s d (a9s ex d.bdom (d.bRow 6 y 5 y)) (j3 call20 y) y fun a w s d=>h_n [0,1,2,3,4,5,6,7,8,9] [] d y y fun hC=>ho 13 y ?_
     refine cV s d (b1k ey d.bdom (d.bRow 6 y 5 y)) (j3 call39 y) y fun a w s d=>h_n [0,1,2,3,4,5,6,7,8,9] [] d y y fun hC=>gv s 14 y y hC (fun w hC=>y_neqB runUnderlying4 y y) fun a s=>q9 (by kernel_rfl) ?_
     exact ⟨bc,wj s d [1,2,3,4,5,6,7,8,9] [0,1,2,3,4,5,6,7,8]⟩
    rintro a w ⟨bo,s,d⟩
    refine tn (cd s u y (fun u=>?_) fun u=>?_)
    ·refine sz0 1 s y fun a s=>?_
     obtain rfl:=oi u
     have ez:=cb _ y
     subst ez
     have eA:=bu _ y
     subst eA
     have eB:=av _ y
     subst eB
     exact t7 (o8 (j4 (j4 (o8 (o8 (j4 (j4 (o8 (j4 (o8 (j4 (j4 (o8 (j4 (rt s y (d.ret y))))))))))))))))
    refine D1 (l9 (tn (j9 (rz0 2 s y fun a s=>?_))))
    exact ⟨_,io u,bo,wj s d [0,1,2,3,4,5,6,7,8] [0,1,2,3,4,5,6,7,8]⟩
   obtain ⟨hw,u,bN⟩:=X5 u
   have bN:=(cb _ bN.symm).symm
   subst bN
   refine u0 (j5 (j5 (o9 (l9 (tn (j9 (rz0 2 s y fun a s=>?_)))))))
   exact ⟨_,io u,aU,aT,bc,wj s d [0,1,2,3,6,7] [0,1,2,3,4,6,7]⟩
  obtain ⟨hA,u,bQ⟩:=X5 u
  have bQ:=(bu _ bQ.symm).symm
  subst bQ
  refine u0 (j5 (j5 (o9 (tn (l3 ?_)))))
  obtain ⟨h,eH,u⟩:=bt u
  refine C7 (fun a w=>∃ bp ac X Y Z aa,Sl 366 [(2,iv n9),(3,iv n),(4,iv k),(5,iv C),(7,pt V),(13,pt W),(16,pt N),(31,pt M),(180,sl (ad Q) (Q3 b f).length (Q3 b f)),(181,iv ((Q3 b f).length:Int)),(182,iv T.2.2),(306,sl (ad ac) ([c,h.1]:List Change).length ([c,h.1]:List Change)),(307,iv (([c,h.1]:List Change).length:Int)),(308,iv 0)] a∧Wd ⟨w0,S0,[]⟩ bp [.box V (C43 c p6 k7) 43,.box W (C94 h.2 aa Y) 94,.box N [sl E D o.1.Channels] 29,.box M (C65 l H F I G) 65,.row (ad Q) (Q3 b f).length (Q3 b f).length (a5j p55 t b p58 R z x f) 65 2,.row (ad ac) ([c,h.1]:List Change).length ([c,h.1]:List Change).length (b1W c p6 k7 h Z X) 43 14] [Sq p6 k7 c.Epoch.Response.Stages,Sq aa Y h.2.L,Sq E D o.1.Channels,Sq H F l.Base.Channels,Sq I G l.Changes,j6 (a5j p55 t b p58 R z x f) (Q3 b f),j6 (b1W c p6 k7 h Z X) ([c,h.1]:List Change)] w) ?_ ?_
  ·refine h_c [0,2,3,4,5] [] d y y (by kernel_rfl) y fun hC d=>gn 4 [0,1,2,6] [0,1] s hC y y y fun a s=>ho 3 y ?_
   refine cR s (L6 eH d.dom (d.ins [1] (by decide) y) (d.envAt 1 y) (d.envAt 2 y)) (j3 call13 y) y ?_
   rintro i4 hr w a eK ⟨Z,X,dA,aa,Y,rfl,eL,eI,eJ⟩ s
   have d:=((d.callO [1] [0,2,3,4,5] (by decide) y eK eL).addE (e:=j6 dA h.1.Epoch.Response.Stages) eI).addE (e:=Sq aa Y h.2.L) eJ
   refine h_n [2,3,4,5,6] [] d y y fun hC=>ho 4 y ?_
   obtain ⟨dk,d⟩:=C8 (α:=Stage) d 0 y 1 y
   refine q8 (α:=Change) (vs:=[V43 c p6 k7,V43 h.1 Z X]) (cs:=(b1W c p6 k7 h Z X)) (xs:=([c,h.1]:List Change)) s d a5R y y y y y y ⟨⟨_,_,_,_,_,_,_,_,_,_,_,_,_,_,y,y,y,y,y,y,y,y,y,y,y,y,y,y,⟨_,_,_,y,d.envAt 3 y⟩⟩,⟨⟨_,_,_,_,_,_,_,_,_,_,_,_,_,_,y,y,y,y,y,y,y,y,y,y,y,y,y,y,⟨_,_,_,y,d.envAt 0 y⟩⟩,y⟩⟩ y j8 y fun ac a w s d=>h_n [2,3,4,5,6] [] d y y fun hC=>h_d [2,3,4,5,6,0] [] [0,1,2,3,4] [] d y y y y fun hC=>gv s 5 y y hC (fun w hC=>y_len C6 y) fun a s=>q9 (by kernel_rfl) ?_
   exact ⟨dk,ac,X,Y,Z,aa,wj s d [2,1,3,4,5,0] [4,2,6,7,8,9,0]⟩
  rintro a w ⟨bp,ac,X,Y,Z,aa,s,d⟩
  refine tn (m6 (u7 (fun aV a w=>∃ bq,Sl 366 [(2,iv n9),(3,iv n),(4,iv k),(5,iv C),(7,pt V),(13,pt W),(16,pt N),(31,pt M),(180,sl (ad Q) (Q3 b f).length (Q3 b f)),(181,iv ((Q3 b f).length:Int)),(182,iv T.2.2),(306,sl (ad ac) ([c,h.1]:List Change).length ([c,h.1]:List Change)),(307,iv (([c,h.1]:List Change).length:Int)),(308,iv aV)] a∧Wd ⟨w0,S0,[]⟩ bq [.box V (C43 c p6 k7) 43,.box W (C94 h.2 aa Y) 94,.box N [sl E D o.1.Channels] 29,.box M (C65 l H F I G) 65,.row (ad Q) (Q3 b f).length (Q3 b f).length (a5j p55 t b p58 R z x f) 65 2,.row (ad ac) ([c,h.1]:List Change).length ([c,h.1]:List Change).length (b1W c p6 k7 h Z X) 43 14] [Sq p6 k7 c.Epoch.Response.Stages,Sq aa Y h.2.L,Sq E D o.1.Channels,Sq H F l.Base.Channels,Sq I G l.Changes,j6 (a5j p55 t b p58 R z x f) (Q3 b f),j6 (b1W c p6 k7 h Z X) ([c,h.1]:List Change)] w) 0 u ⟨bp,wj s d [0,1,2,3,4,5] [0,1,2,3,4,5,6]⟩ ?_))
  repeat clear u
  rintro aV a w hH ⟨bq,s,d⟩ u bv
  refine sz0 1 s y fun a s=>l3 (cd s u y (fun u=>?_) fun u=>?_)
  ·refine sk (l3 (m6 (sr ?_)))
   obtain ⟨cP,eM,u⟩:=bt u
   obtain ⟨iK,ib,cw,eO,eP,eN⟩:=d.elemRK (α:=Change) 5 y 6 y eM
   obtain ⟨_,_,_,_,_,_,_,_,_,_,_,_,_,_,rfl,rfl,rfl,rfl,rfl,rfl,rfl,rfl,rfl,rfl,rfl,rfl,rfl,rfl,⟨cM,iE,cI,rfl,cx⟩⟩:=eN
   obtain rfl:=cx.1
   have d:=d.addE (e:=SlA cM _ cI cP.Epoch.Response.Stages) cx
   refine sv s (o7 C6 A0 y y cw.1 cw.2 eO) y fun a s=>sv s (I4 (j:=0) (d.ownAt 5 y) y F1 A0 eP y y) y fun a s=>wa Z18 s d zeroValue43 fun h5 a w s d=>ws (C43 cP cM cI) s d 0 y y y A0 fun a w s d=>nl (sn 2 [4,0] s d y y fun a s=>?_)
   obtain ⟨J,eQ,u⟩:=bt u
   refine cR s (a9W eQ d.dom (d.envAt 4 y) (d.envAt 5 y) (d.envAt 0 y)) (j3 call40 y) y ?_
   rintro i5 hs w a eT ⟨aI,aC,ax,a3,aD,ay,rfl,eU,eR,eS⟩ s
   have d:=((d.callN eT eU).addE (e:=j6 ax J.1.Base.Channels) eR).addE (e:=j6 ay J.1.Changes) eS
   refine rn0 3 s y fun a s=>wa Z21 s d zeroValue65 fun aR a w s d=>ws (C65 J.1 aI aC a3 aD) s d 0 y y y C1 fun a w s d=>rz0 1 s y fun a s=>sn 2 [7,3] s d y y fun a s=>?_
   obtain ⟨O,eV,u⟩:=bt u
   refine cR s (a3Z eV d.dom (d.envAt 6 y) (d.envAt 7 y) (d.envAt 2 y)) (j3 call41 y) y ?_
   rintro i6 b7 w a eY ⟨aJ,aE,az,a4,aF,aA,rfl,eZ,eW,eX⟩ s
   have d:=((d.callN eY eZ).addE (e:=j6 az O.1.Base.Channels) eW).addE (e:=j6 aA O.1.Changes) eX
   refine rn0 3 s y fun a s=>wa Z21 s d zeroValue65 fun aS a w s d=>ws (C65 O.1 aJ aE a4 aF) s d 0 y y y C1 fun a w s d=>rz0 1 s y fun a s=>l3 (sn0 4 s y fun a s=>?_)
   refine rO 8 327 [3,0] s d y y y y y fun a s=>mv s y y fun a s=>?_
   obtain ⟨dB,ca,u⟩:=bt u
   refine y7 7 (fun a w=>∃ br,Sl 366 [(2,iv n9),(3,iv n),(4,iv k),(5,iv C),(7,pt V),(13,pt W),(16,pt N),(31,pt M),(47,pt aR),(49,pt aS),(180,sl (ad Q) (Q3 b f).length (Q3 b f)),(181,iv ((Q3 b f).length:Int)),(182,iv T.2.2),(306,sl (ad ac) ([c,h.1]:List Change).length ([c,h.1]:List Change)),(307,iv (([c,h.1]:List Change).length:Int)),(308,iv aV),(343,.bool dB)] a∧Wd ⟨w0,S0,[]⟩ br [.box V (C43 c p6 k7) 43,.box W (C94 h.2 aa Y) 94,.box N [sl E D o.1.Channels] 29,.box M (C65 l H F I G) 65,.box aR (C65 J.1 aI aC a3 aD) 65,.box aS (C65 O.1 aJ aE a4 aF) 65,.row aI J.1.Base.Channels.length aC ax 73 5,.row a3 J.1.Changes.length aD ay 43 14,.row aJ O.1.Base.Channels.length aE az 73 5,.row a4 O.1.Changes.length aF aA 43 14,.row (ad Q) (Q3 b f).length (Q3 b f).length (a5j p55 t b p58 R z x f) 65 2,.row (ad ac) ([c,h.1]:List Change).length ([c,h.1]:List Change).length (b1W c p6 k7 h Z X) 43 14] [Sq p6 k7 c.Epoch.Response.Stages,Sq aa Y h.2.L,Sq E D o.1.Channels,Sq H F l.Base.Channels,Sq I G l.Changes,j6 ax J.1.Base.Channels,j6 ay J.1.Changes,j6 az O.1.Base.Channels,j6 aA O.1.Changes,j6 (a5j p55 t b p58 R z x f) (Q3 b f),j6 (b1W c p6 k7 h Z X) ([c,h.1]:List Change)] w) ?_ ?_
   ·rcases j0 ((J.2 != O.2) || ((J.1.Changes.length:Int) != (O.1.Changes.length:Int))) with a2 | a2
    ·have s:=s.bT 336 y a2
     have u:=D7 ca a2
     refine rn0 7 s y fun a s=>l4 ?_
     obtain rfl:=oi u
     exact tn ⟨b7,wj s d [7,8,9,10,3,0,4,5,1,2,11,12] [5,6,7,8,9,3,2,1,0,10,11]⟩
    have s:=s.bF 336 y a2
    have u:=E8 ca a2
    refine rn 4 [3,0] s d y y fun a s=>?_
    obtain ⟨hx,e2,u⟩:=bt u
    refine x9 s (a3L e2 d.bdom (d.bRow 4 y 3 y) (d.bRow 1 y 1 y)) (j3 call19 y) ⟨_,y,y⟩ y y ?_
    rintro i7 ht w a e3 rfl s
    have d:=d.callB e3
    refine rn0 2 s y fun a s=>l4 ?_
    obtain rfl:=oi u
    exact tn ⟨b7,wj s d [7,8,9,10,3,0,4,5,1,2,11,12] [5,6,7,8,9,3,2,1,0,10,11]⟩
   rintro a w ⟨br,s,d⟩
   refine nl (cd s u y (fun u=>?_) fun u=>?_)
   ·refine sz0 1 s y fun a s=>?_
    obtain rfl:=oi u
    have e4:=bv _ y
    subst e4
    have e5:=av _ y
    subst e5
    exact t7 (j4 (o8 (j4 (j4 (o8 (o8 (j4 (j4 (o8 (j4 (rt s y (d.ret y))))))))))))
   refine sk (sz 4 [4] s d y y fun a s=>?_)
   refine m6 (u7 (fun bA a w=>∃ bd,Sl 366 [(2,iv n9),(3,iv n),(4,iv k),(5,iv C),(7,pt V),(13,pt W),(16,pt N),(31,pt M),(47,pt aR),(49,pt aS),(180,sl (ad Q) (Q3 b f).length (Q3 b f)),(181,iv ((Q3 b f).length:Int)),(182,iv T.2.2),(306,sl (ad ac) ([c,h.1]:List Change).length ([c,h.1]:List Change)),(307,iv (([c,h.1]:List Change).length:Int)),(308,iv aV),(346,iv (J.1.Changes.length:Int)),(347,iv bA)] a∧Wd ⟨w0,S0,[]⟩ bd [.box V (C43 c p6 k7) 43,.box W (C94 h.2 aa Y) 94,.box N [sl E D o.1.Channels] 29,.box M (C65 l H F I G) 65,.box aR (C65 J.1 aI aC a3 aD) 65,.box aS (C65 O.1 aJ aE a4 aF) 65,.row aI J.1.Base.Channels.length aC ax 73 5,.row a3 J.1.Changes.length aD ay 43 14,.row aJ O.1.Base.Channels.length aE az 73 5,.row a4 O.1.Changes.length aF aA 43 14,.row (ad Q) (Q3 b f).length (Q3 b f).length (a5j p55 t b p58 R z x f) 65 2,.row (ad ac) ([c,h.1]:List Change).length ([c,h.1]:List Change).length (b1W c p6 k7 h Z X) 43 14] [Sq p6 k7 c.Epoch.Response.Stages,Sq aa Y h.2.L,Sq E D o.1.Channels,Sq H F l.Base.Channels,Sq I G l.Changes,j6 ax J.1.Base.Channels,j6 ay J.1.Changes,j6 az O.1.Base.Channels,j6 aA O.1.Changes,j6 (a5j p55 t b p58 R z x f) (Q3 b f),j6 (b1W c p6 k7 h Z X) ([c,h.1]:List Change)] w) 0 u ⟨br,wj s d [0,1,2,3,4,5,6,7,8,9,10,11] [0,1,2,3,4,5,6,7,8,9,10]⟩ ?_)
   repeat clear u
   rintro bA a w hI ⟨bd,s,d⟩ u cc
   refine sz0 1 s y fun a s=>l3 (cd s u y (fun u=>?_) fun u=>?_)
   ·refine sk (l3 (m6 (sz0 2 s y fun a s=>?_)))
    refine l3 ?_
    obtain ⟨fG,e6,u⟩:=bt u
    obtain ⟨ck,iL,ic,fb,e8,e9,fa,e7⟩:=d.elemRV (α:=Change) 7 y 6 y e6
    have cT:=s
    have cX:=d
    subst fb
    have s:=cT
    have d:=cX
    obtain ⟨_,_,_,_,_,_,_,_,_,_,_,_,_,_,rfl,rfl,rfl,rfl,rfl,rfl,rfl,rfl,rfl,rfl,rfl,rfl,rfl,rfl,⟨fy,iF,fs,rfl,cy⟩⟩:=e7
    obtain rfl:=cy.1
    have d:=d.addE (e:=SlA fy _ fs fG.Epoch.Response.Stages) cy
    obtain ⟨fH,fc,u⟩:=bt u
    obtain ⟨cl,iM,id,fh,fe,ff,fg,fd⟩:=d.elemRV (α:=Change) 9 y 9 y fc
    have cU:=s
    have cY:=d
    subst fh
    have s:=cU
    have d:=cY
    obtain ⟨_,_,_,_,_,_,_,_,_,_,_,_,_,_,rfl,rfl,rfl,rfl,rfl,rfl,rfl,rfl,rfl,rfl,rfl,rfl,rfl,rfl,⟨fz,iG,ft,rfl,cz⟩⟩:=fd
    obtain rfl:=cz.1
    have d:=d.addE (e:=SlA fz _ ft fH.Epoch.Response.Stages) cz
    obtain ⟨dq,fi,u⟩:=bt u
    refine C7 (fun a w=>∃ bs,Sl 366 [(2,iv n9),(3,iv n),(4,iv k),(5,iv C),(7,pt V),(13,pt W),(16,pt N),(31,pt M),(47,pt aR),(49,pt aS),(180,sl (ad Q) (Q3 b f).length (Q3 b f)),(181,iv ((Q3 b f).length:Int)),(182,iv T.2.2),(306,sl (ad ac) ([c,h.1]:List Change).length ([c,h.1]:List Change)),(307,iv (([c,h.1]:List Change).length:Int)),(308,iv aV),(346,iv (J.1.Changes.length:Int)),(347,iv bA),(361,.bool (!dq))] a∧Wd ⟨w0,S0,[]⟩ bs [.box V (C43 c p6 k7) 43,.box W (C94 h.2 aa Y) 94,.box N [sl E D o.1.Channels] 29,.box M (C65 l H F I G) 65,.box aR (C65 J.1 aI aC (ad ck) aD) 65,.box aS (C65 O.1 aJ aE (ad cl) aF) 65,.row aI J.1.Base.Channels.length aC ax 73 5,.row (ad ck) J.1.Changes.length aD ay 43 14,.row aJ O.1.Base.Channels.length aE az 73 5,.row (ad cl) O.1.Changes.length aF aA 43 14,.row (ad Q) (Q3 b f).length (Q3 b f).length (a5j p55 t b p58 R z x f) 65 2,.row (ad ac) ([c,h.1]:List Change).length ([c,h.1]:List Change).length (b1W c p6 k7 h Z X) 43 14] [Sq p6 k7 c.Epoch.Response.Stages,Sq aa Y h.2.L,Sq E D o.1.Channels,Sq H F l.Base.Channels,Sq I G l.Changes,j6 ax J.1.Base.Channels,j6 ay J.1.Changes,j6 az O.1.Base.Channels,j6 aA O.1.Changes,j6 (a5j p55 t b p58 R z x f) (Q3 b f),j6 (b1W c p6 k7 h Z X) ([c,h.1]:List Change)] w) ?_ ?_
    ·refine h_c [0,1,2,3,4,5,6,7,8,9,10,11] [] d y y (by kernel_rfl) y fun hC d=>gn 3 [0,1,2] [4] s hC y y y fun a s=>gx s 3 y j8 y hC C6 A0 y y e8 e9 fun a s=>gv s 4 y y hC (fun w hC=>I4 (j:=0) (hC.ownAt 7 y) y F1 A0 fa y y) fun a s=>gn 3 [5,6,7] [5] s hC y y y fun a s=>gx s 8 y j8 y hC C6 A0 y y fe ff fun a s=>gv s 9 y y hC (fun w hC=>I4 (j:=0) (hC.ownAt 9 y) y F1 A0 fg y y) fun a s=>ho 10 y ?_
     refine cV s d (a3E fi d.bdom (d.bE 1 y) (d.bE 0 y)) (j3 call35 y) y fun a w s d=>h_n [0,1,2,3,4,5,6,7,8,9,10,11] [] d y y fun hC=>gv s 11 y y hC (fun w hC=>a5Z y) fun a s=>q9 (by kernel_rfl) ?_
     exact ⟨bd,wj s d [0,1,2,3,4,5,6,7,8,9,10,11] [2,3,4,5,6,7,8,9,10,11,12]⟩
    rintro a w ⟨bs,s,d⟩
    refine tn (cd s u y (fun u=>?_) fun u=>?_)
    ·refine sz0 1 s y fun a s=>?_
     obtain rfl:=oi u
     have fj:=cc _ y
     subst fj
     have fk:=bv _ y
     subst fk
     have fl:=av _ y
     subst fl
     exact t7 (o8 (j4 (j4 (o8 (o8 (j4 (j4 (o8 (o8 (j4 (j4 (o8 (j4 (rt s y (d.ret y)))))))))))))))
    refine D1 (l9 (tn (j9 (rz0 2 s y fun a s=>?_))))
    exact ⟨_,io u,bs,wj s d [0,1,2,3,4,5,6,7,8,9,10,11] [0,1,2,3,4,5,6,7,8,9,10]⟩
   obtain ⟨hy,u,bO⟩:=X5 u
   have bO:=(cc _ bO.symm).symm
   subst bO
   refine u0 (j5 (j5 (o9 (l9 (tn (j9 (rz0 2 s y fun a s=>?_)))))))
   exact ⟨_,io u,bd,wj s d [0,1,2,3,10,11] [0,1,2,3,4,9,10]⟩
  obtain ⟨hz,u,bP⟩:=X5 u
  have bP:=(bv _ bP.symm).symm
  subst bP
  refine u0 (j5 (j5 (o9 (l9 (tn (j9 (rz0 2 s y fun a s=>?_)))))))
  exact ⟨_,io u,aa,Y,bq,wj s d [0,1,2,4] [0,1,2,5]⟩
 obtain ⟨hD,u,bR⟩:=X5 u
 have bR:=(av _ bR.symm).symm
 subst bR
 refine u0 (j5 (j5 (o9 (tn (sr ?_)))))
 obtain ⟨hB,fm,u⟩:=bt u
 refine cV s d (a9A fm d.bdom) (j3 call10 y) y fun a w s d=>rz0 1 s y fun a s=>?_
 obtain rfl:=oi u
 exact q1 s y (d.ret y)
end Go.Proofs.YteanekphncdhiaaGreat.Wk

/- The walks of ContinuityExact, part 1: each Go function computes what its plain program computes. Printed by a program of ours. -/
import Derived.Test.YtdcafiefjakfeaaGreatProg
import Derived.Test.YtdcafiefjakfeaaGreatDat
import Derived.Test.YtdcafiefjakfeaaGreatSh
import Derived.Test.YtdcafiefjakfeaaGreatLa1
import Derived.KernelRfl
import Derived.Test.YtdcafiefjakfeaaGreatLb1
import Derived.Shelf.SlLaysF0
import Derived.Shelf.SlLaysM
namespace Go.Proofs.YtdcafiefjakfeaaGreat.Wk
open Go Go.RowKit Go.Proofs Go.Proofs.YtdcafiefjakfeaaGreat.Sh Go.Proofs.Tryz
set_option linter.unusedVariables false
set_option linter.unusedSimpArgs false
set_option maxHeartbeats 4000000
set_option maxRecDepth 100000
theorem S9:ElT Tryz.prog 22 3 1 8 (.int .i64 0):=⟨Tryz.underlying22,⟨Tryz.t3,a4c Tryz.type3,rfl,rfl,rfl⟩,rfl,by decide⟩
theorem a9F:ElT Tryz.prog 28 56 12 144 (.agg #[.string ByteArray.empty,.string ByteArray.empty,.string ByteArray.empty,.string ByteArray.empty,.int .i64 0,.int .i64 0,.int .i64 0,.int .i64 0,.int .i64 0,.int .i64 0,.int .i64 0,.slice none ([]:List Int).length 0]):=⟨Tryz.underlying28,⟨Tryz.t56,a4c Tryz.type56,rfl,rfl,rfl⟩,rfl,by decide⟩
theorem a3o:ElT Tryz.prog 30 71 2 16 (.agg #[.int .i64 0,.int .i64 0]):=⟨Tryz.underlying30,⟨Tryz.t71,a4c Tryz.type71,rfl,rfl,rfl⟩,rfl,by decide⟩
theorem El34:ElT Tryz.prog 34 42 3 24 (.agg #[.int .i64 0,.int .i64 0,.bool false]):=⟨Tryz.underlying34,⟨Tryz.t42,a4c Tryz.type42,rfl,rfl,rfl⟩,rfl,by decide⟩
theorem El60:ElT Tryz.prog 60 64 6 64 (.agg #[.int .i64 0,.int .i64 0,.int .i64 0,.int .i64 0,.int .i64 0,.slice none ([]:List Int).length 0]):=⟨Tryz.underlying60,⟨Tryz.t64,a4c Tryz.type64,rfl,rfl,rfl⟩,rfl,by decide⟩
theorem El79:ElT Tryz.prog 79 28 1 24 (.slice none ([]:List Record).length 0):=⟨Tryz.underlying79,⟨Tryz.t28,a4c Tryz.type28,rfl,rfl,rfl⟩,rfl,by decide⟩
theorem El80:ElT Tryz.prog 80 50 2 16 (.agg #[.int .i64 0,.int .i64 0]):=⟨Tryz.underlying80,⟨Tryz.t50,a4c Tryz.type50,rfl,rfl,rfl⟩,rfl,by decide⟩
theorem El83:ElT Tryz.prog 83 60 1 24 (.slice none ([]:List Segment).length 0):=⟨Tryz.underlying83,⟨Tryz.t60,a4c Tryz.type60,rfl,rfl,rfl⟩,rfl,by decide⟩
theorem El122:ElT Tryz.prog 122 9 1 16 (.string ByteArray.empty):=⟨Tryz.underlying122,⟨Tryz.t9,a4c Tryz.type9,rfl,rfl,rfl⟩,rfl,by decide⟩
theorem El153:ElT Tryz.prog 153 4 1 1 (.bool false):=⟨Tryz.underlying153,⟨Tryz.t4,a4c Tryz.type4,rfl,rfl,rfl⟩,rfl,by decide⟩
theorem El155:ElT Tryz.prog 155 22 1 24 (.slice none ([]:List Int).length 0):=⟨Tryz.underlying155,⟨Tryz.t22,a4c Tryz.type22,rfl,rfl,rfl⟩,rfl,by decide⟩
theorem Bld42:a8Q Tryz.prog 42 ((#[(0,1),(1,1),(2,1)]:Array (Nat × Nat))[·]?) [.int .i64 0,.int .i64 0,.bool false]:=a7y Tryz.zeroValue42 rfl Tryz.runUnderlying42 (fun w=>by simp [Tryz.sizeOf3,Tryz.sizeOf4])
theorem b1H:a8Q Tryz.prog 50 (fun i=>some (i * 1,1)) [.int .i64 0,.int .i64 0]:=b1A Tryz.zeroValue50 rfl Tryz.runUnderlying50 Tryz.sizeOf3
theorem Bld52:a8Q Tryz.prog 52 ((#[(0,1),(1,1),(2,1),(3,1)]:Array (Nat × Nat))[·]?) [.string ByteArray.empty,.string ByteArray.empty,.string ByteArray.empty,.string ByteArray.empty]:=a7y Tryz.zeroValue52 rfl Tryz.runUnderlying52 (fun w=>by simp [Tryz.sizeOf9])
theorem b4b:a8Q Tryz.prog 54 ((#[(0,1),(1,1)]:Array (Nat × Nat))[·]?) [.int .i64 0,.int .i64 0]:=a7y Tryz.zeroValue54 rfl Tryz.runUnderlying54 (fun w=>by simp [Tryz.sizeOf3])
theorem a6s:a8Q Tryz.prog 56 ((#[(0,4),(4,1),(5,1),(6,2),(8,1),(9,1),(10,1),(11,1)]:Array (Nat × Nat))[·]?) [.string ByteArray.empty,.string ByteArray.empty,.string ByteArray.empty,.string ByteArray.empty,.int .i64 0,.int .i64 0,.int .i64 0,.int .i64 0,.int .i64 0,.int .i64 0,.int .i64 0,.slice none ([]:List Int).length 0]:=a7y Tryz.zeroValue56 rfl Tryz.runUnderlying56 (fun w=>by simp [Tryz.sizeOf3,Tryz.sizeOf22,Tryz.sizeOf52,Tryz.sizeOf54])
theorem Bld64:a8Q Tryz.prog 64 ((#[(0,1),(1,1),(2,2),(4,1),(5,1)]:Array (Nat × Nat))[·]?) [.int .i64 0,.int .i64 0,.int .i64 0,.int .i64 0,.int .i64 0,.slice none ([]:List Int).length 0]:=a7y Tryz.zeroValue64 rfl Tryz.runUnderlying64 (fun w=>by simp [Tryz.sizeOf3,Tryz.sizeOf22,Tryz.sizeOf54])
theorem a6t:a8Q Tryz.prog 71 ((#[(0,1),(1,1)]:Array (Nat × Nat))[·]?) [.int .i64 0,.int .i64 0]:=a7y Tryz.zeroValue71 rfl Tryz.runUnderlying71 (fun w=>by simp [Tryz.sizeOf3])
theorem Bld87:a8Q Tryz.prog 87 ((#[(0,1),(1,1)]:Array (Nat × Nat))[·]?) [.slice none ([]:List Int).length 0,.int .i64 0]:=a7y Tryz.zeroValue87 rfl Tryz.runUnderlying87 (fun w=>by simp [Tryz.sizeOf3,Tryz.sizeOf22])
theorem Bld93:a8Q Tryz.prog 93 ((#[(0,1),(1,1)]:Array (Nat × Nat))[·]?) [.int .i64 0,.bool false]:=a7y Tryz.zeroValue93 rfl Tryz.runUnderlying93 (fun w=>by simp [Tryz.sizeOf3,Tryz.sizeOf4])
theorem Bld105:a8Q Tryz.prog 105 ((#[(0,6),(6,1),(7,1)]:Array (Nat × Nat))[·]?) [.int .i64 0,.int .i64 0,.int .i64 0,.int .i64 0,.int .i64 0,.slice none ([]:List Int).length 0,.int .i64 0,.int .i64 0]:=a7y Tryz.zeroValue105 rfl Tryz.runUnderlying105 (fun w=>by simp [Tryz.sizeOf3,Tryz.sizeOf64])
theorem Bld131:a8Q Tryz.prog 131 (fun i=>some (i * 1,1)) [.int .i64 0,.int .i64 0,.int .i64 0]:=b1A Tryz.zeroValue131 rfl Tryz.runUnderlying131 Tryz.sizeOf3
theorem Bld150:a8Q Tryz.prog 150 (fun i=>some (i * 1,1)) [.int .i64 0,.int .i64 0,.int .i64 0,.int .i64 0,.int .i64 0,.int .i64 0,.int .i64 0,.int .i64 0,.int .i64 0,.int .i64 0]:=b1A Tryz.zeroValue150 rfl Tryz.runUnderlying150 Tryz.sizeOf3
theorem Bld177:a8Q Tryz.prog 177 (fun i=>some (i * 1,1)) [.int .i64 0,.int .i64 0,.int .i64 0,.int .i64 0]:=b1A Tryz.zeroValue177 rfl Tryz.runUnderlying177 Tryz.sizeOf3
instance:TbOk Tryz.prog where
  tb:=⟨[(42,[(0,1,false),(1,1,false),(2,1,false)]),(52,[(0,1,false),(1,1,false),(2,1,false),(3,1,false)]),(54,[(0,1,false),(1,1,false)]),(56,[(0,4,true),(4,1,false),(5,1,false),(6,2,true),(8,1,false),(9,1,false),(10,1,false),(11,1,false)]),(64,[(0,1,false),(1,1,false),(2,2,true),(4,1,false),(5,1,false)]),(71,[(0,1,false),(1,1,false)]),(87,[(0,1,false),(1,1,false)]),(93,[(0,1,false),(1,1,false)]),(105,[(0,6,true),(6,1,false),(7,1,false)])],[(3,none),(4,none),(9,none),(22,none),(28,none),(42,some 3),(52,some 4),(54,some 2),(56,some 12),(64,some 6),(71,some 2),(93,some 2),(105,some 8)],[(9,false),(22,true),(28,true),(30,true),(34,true),(60,true),(79,true),(80,true),(83,true),(153,true),(155,true)]⟩
  st:=⟨⟨_,Tryz.runUnderlying42,⟨rfl,Tryz.sizeOf3,Tryz.isAgg3⟩,⟨rfl,Tryz.sizeOf3,Tryz.isAgg3⟩,⟨rfl,Tryz.sizeOf4,Tryz.isAgg4⟩,trivial⟩,⟨_,Tryz.runUnderlying52,⟨rfl,Tryz.sizeOf9,Tryz.isAgg9⟩,⟨rfl,Tryz.sizeOf9,Tryz.isAgg9⟩,⟨rfl,Tryz.sizeOf9,Tryz.isAgg9⟩,⟨rfl,Tryz.sizeOf9,Tryz.isAgg9⟩,trivial⟩,⟨_,Tryz.runUnderlying54,⟨rfl,Tryz.sizeOf3,Tryz.isAgg3⟩,⟨rfl,Tryz.sizeOf3,Tryz.isAgg3⟩,trivial⟩,⟨_,Tryz.runUnderlying56,⟨rfl,Tryz.sizeOf52,Tryz.isAgg52⟩,⟨rfl,Tryz.sizeOf3,Tryz.isAgg3⟩,⟨rfl,Tryz.sizeOf3,Tryz.isAgg3⟩,⟨rfl,Tryz.sizeOf54,Tryz.isAgg54⟩,⟨rfl,Tryz.sizeOf3,Tryz.isAgg3⟩,⟨rfl,Tryz.sizeOf3,Tryz.isAgg3⟩,⟨rfl,Tryz.sizeOf3,Tryz.isAgg3⟩,⟨rfl,Tryz.sizeOf22,Tryz.isAgg22⟩,trivial⟩,⟨_,Tryz.runUnderlying64,⟨rfl,Tryz.sizeOf3,Tryz.isAgg3⟩,⟨rfl,Tryz.sizeOf3,Tryz.isAgg3⟩,⟨rfl,Tryz.sizeOf54,Tryz.isAgg54⟩,⟨rfl,Tryz.sizeOf3,Tryz.isAgg3⟩,⟨rfl,Tryz.sizeOf22,Tryz.isAgg22⟩,trivial⟩,⟨_,Tryz.runUnderlying71,⟨rfl,Tryz.sizeOf3,Tryz.isAgg3⟩,⟨rfl,Tryz.sizeOf3,Tryz.isAgg3⟩,trivial⟩,⟨_,Tryz.runUnderlying87,⟨rfl,Tryz.sizeOf22,Tryz.isAgg22⟩,⟨rfl,Tryz.sizeOf3,Tryz.isAgg3⟩,trivial⟩,⟨_,Tryz.runUnderlying93,⟨rfl,Tryz.sizeOf3,Tryz.isAgg3⟩,⟨rfl,Tryz.sizeOf4,Tryz.isAgg4⟩,trivial⟩,⟨_,Tryz.runUnderlying105,⟨rfl,Tryz.sizeOf64,Tryz.isAgg64⟩,⟨rfl,Tryz.sizeOf3,Tryz.isAgg3⟩,⟨rfl,Tryz.sizeOf3,Tryz.isAgg3⟩,trivial⟩,trivial⟩
  ld:=⟨Tryz.isAgg3,Tryz.isAgg4,Tryz.isAgg9,Tryz.isAgg22,Tryz.isAgg28,⟨Tryz.isAgg42,Tryz.sizeOf42⟩,⟨Tryz.isAgg52,Tryz.sizeOf52⟩,⟨Tryz.isAgg54,Tryz.sizeOf54⟩,⟨Tryz.isAgg56,Tryz.sizeOf56⟩,⟨Tryz.isAgg64,Tryz.sizeOf64⟩,⟨Tryz.isAgg71,Tryz.sizeOf71⟩,⟨Tryz.isAgg93,Tryz.sizeOf93⟩,⟨Tryz.isAgg105,Tryz.sizeOf105⟩,trivial⟩
  ln:=⟨Tryz.runUnderlying9,⟨_,Tryz.runUnderlying22⟩,⟨_,Tryz.runUnderlying28⟩,⟨_,Tryz.runUnderlying30⟩,⟨_,Tryz.runUnderlying34⟩,⟨_,Tryz.runUnderlying60⟩,⟨_,Tryz.runUnderlying79⟩,⟨_,Tryz.runUnderlying80⟩,⟨_,Tryz.runUnderlying83⟩,⟨_,Tryz.runUnderlying153⟩,⟨_,Tryz.runUnderlying155⟩,trivial⟩
abbrev C52 (d:SourceID):List Value:=[.string d.Network,.string d.Station,.string d.Location,.string d.Channel]
abbrev V52 (d:SourceID):Value:=.agg (C52 d).toArray
abbrev C54 (d:Rate):List Value:=[.int .i64 d.Num,.int .i64 d.Den]
abbrev V54 (d:Rate):Value:=.agg (C54 d).toArray
abbrev C56 (d:Record) (p11:Option Addr) (k11:Nat):List Value:=[.string d.Source.Network,.string d.Source.Station,.string d.Source.Location,.string d.Source.Channel,.int .i64 d.Start,.int .i64 d.First,.int .i64 d.Rate.Num,.int .i64 d.Rate.Den,.int .i64 d.Error,.int .i64 d.Run,.int .i64 d.Seq,.slice p11 d.Samples.length k11]
abbrev V56 (d:Record) (p11:Option Addr) (k11:Nat):Value:=.agg (C56 d p11 k11).toArray
abbrev C64 (d:Segment) (p5:Option Addr) (k5:Nat):List Value:=[.int .i64 d.Start,.int .i64 d.First,.int .i64 d.Rate.Num,.int .i64 d.Rate.Den,.int .i64 d.Error,.slice p5 d.Samples.length k5]
abbrev V64 (d:Segment) (p5:Option Addr) (k5:Nat):Value:=.agg (C64 d p5 k5).toArray
abbrev C71 (d:Span):List Value:=[.int .i64 d.From,.int .i64 d.To]
abbrev V71 (d:Span):Value:=.agg (C71 d).toArray
abbrev C87 (d:Dice) (p0:Option Addr) (k0:Nat):List Value:=[.slice p0 d.L.length k0,.int .i64 d.At]
abbrev V87 (d:Dice) (p0:Option Addr) (k0:Nat):Value:=.agg (C87 d p0 k0).toArray
abbrev C93 (d:Continuity_state):List Value:=[.int .i64 d.depth_,.bool d.same_]
abbrev V93 (d:Continuity_state):Value:=.agg (C93 d).toArray
abbrev a4A (d:Continuity_builder) (p5:Option Addr) (k5:Nat):List Value:=[.int .i64 d.Segment.Start,.int .i64 d.Segment.First,.int .i64 d.Segment.Rate.Num,.int .i64 d.Segment.Rate.Den,.int .i64 d.Segment.Error,.slice p5 d.Segment.Samples.length k5,.int .i64 d.worst_,.int .i64 d.off_]
abbrev V105 (d:Continuity_builder) (p5:Option Addr) (k5:Nat):Value:=.agg (a4A d p5 k5).toArray
abbrev Z0:List Value:=[.string ByteArray.empty,.string ByteArray.empty,.string ByteArray.empty,.string ByteArray.empty,.int .i64 0,.int .i64 0,.int .i64 0,.int .i64 0,.int .i64 0,.int .i64 0,.int .i64 0,.slice none ([]:List Int).length 0]
abbrev Z1:List Value:=[.string ByteArray.empty,.string ByteArray.empty,.string ByteArray.empty,.string ByteArray.empty]
abbrev Z2:List Value:=[.string (⟨#[65]⟩:ByteArray),.string (⟨#[66]⟩:ByteArray),.string ByteArray.empty,.string (⟨#[72,72,90]⟩:ByteArray)]
abbrev Z3:List Value:=[.string (⟨#[71,82]⟩:ByteArray),.string (⟨#[88]⟩:ByteArray),.string (⟨#[55,65]⟩:ByteArray)]
abbrev Z4:List Value:=[.string (⟨#[70,85,82]⟩:ByteArray),.string (⟨#[65]⟩:ByteArray),.string (⟨#[65,66,67,68,69]⟩:ByteArray),.string (⟨#[70,85]⟩:ByteArray)]
abbrev Z5:List Value:=[.string (⟨#[]⟩:ByteArray),.string (⟨#[48,48]⟩:ByteArray),.string (⟨#[49,48]⟩:ByteArray)]
abbrev Z6:List Value:=[.string (⟨#[72,72,90]⟩:ByteArray),.string (⟨#[72,72,78]⟩:ByteArray),.string (⟨#[66,72,90]⟩:ByteArray)]
abbrev Z7:List Value:=[.int .i64 0,.int .i64 0,.int .i64 10,.int .i64 500]
abbrev Z8:List Value:=[.int .i64 1,.int .i64 2,.int .i64 2,.int .i64 3]
abbrev Z9:List Value:=[.int .i64 1,.int .i64 1,.int .i64 1,.int .i64 3]
abbrev Z10:List Value:=[.int .i64 (-1),.int .i64 0,.int .i64 9007199254740992,.int .i64 9007199254740993]
abbrev Z11:List Value:=[.int .i64 (-1),.int .i64 16777213,.int .i64 16777216]
abbrev Z12:List Value:=[.int .i64 (-1),.int .i64 1099511627776,.int .i64 1099511627777]
abbrev Z13:List Value:=[.int .i64 (-1),.int .i64 65535,.int .i64 65536]
abbrev Z14:List Value:=[.int .i64 (-1),.int .i64 1073741824,.int .i64 1073741825]
abbrev Z15:List Value:=[.int .i64 1073741823,.int .i64 1073741824,.int .i64 (-1073741824)]
abbrev Z17:List Value:=[.int .i64 0,.int .i64 0,.int .i64 0,.int .i64 0,.int .i64 0,.slice none ([]:List Int).length 0,.int .i64 0,.int .i64 0]
abbrev Z19:List Value:=[.int .i64 0,.int .i64 0,.int .i64 0,.int .i64 0,.int .i64 0,.slice none ([]:List Int).length 0]
abbrev Z20:List Value:=[.int .i64 1,.int .i64 4,.int .i64 20,.int .i64 3]
abbrev Z21:List Value:=[.int .i64 0,.int .i64 10,.int .i64 2000000]
abbrev Z23:List Value:=[.int .i64 1,.int .i64 250000,.int .i64 1000000,.int .i64 1000001]
abbrev u6 (w0:World) (X:List Nat) (r:Bool):Rd:=fun S w v=>v=.bool r
theorem b2B {w0 S0 p2 k3 l1 r} (u:a7J l1=some r) (hS:Dm S0 w0) (h4:(Sq p2 k3 l1).p S0 w0):Ck Tryz.prog 9 #[sl p2 k3 l1] w0 S0 [] u6 r:=by
 refine en 6 func9 rfl hS rfl rfl rfl fun a s d=>?_
 have d:=d.addE h4
 refine sz0 1 s rfl fun a s=>?_
 refine sz0 4 s rfl fun a s=>?_
 obtain rfl:=oi u
 exact q1 s rfl (d.ret rfl)
abbrev j4 (w0:World) (X:List Nat) (r:Int):Rd:=fun S w v=>v=iv r
theorem a1R {w0 S0 p2 k3 g6 f7 cp8 s1} {f5:Record→Option Bool} {r} (u:J3 s1 f5=some r) (hS:Dm S0 w0) (h4:(Sq p2 k3 s1).p S0 w0) (h9:(a5Q Tryz.prog g6 f7 cp8 f5).p S0 w0):Ck Tryz.prog 176 #[sl p2 k3 s1,.func (.func g6) f7.toArray cp8.toArray] w0 S0 [] j4 r:=by
 refine en 19 func176 rfl hS rfl rfl rfl fun a s d=>?_
 have d:=(d.addE h4).addE h9
 refine sz0 1 s rfl fun a s=>?_
 refine wp_seq (sz0 3 s rfl fun a s=>?_)
 refine wp_block (u7 (fun sv90 a w=>∃ Sv142,Sl 19 [(0,sl p2 k3 s1),(1,.func (.func g6) f7.toArray cp8.toArray),(7,iv (s1.length:Int)),(8,iv sv90)] a∧Wd ⟨w0,S0,[]⟩ Sv142 [] [Sq p2 k3 s1,a5Q Tryz.prog g6 f7 cp8 f5] w) 0 u ⟨S0,wj s d [] [1,0]⟩ ?_)
 repeat clear u
 rintro sv90 a w tv169 ⟨Sv142,s,d⟩ u hd168
 refine sz0 1 s rfl fun a s=>?_
 refine wp_seq (cd s u rfl (fun u=>?_) fun u=>?_)
 ·refine sk (wp_seq (wp_block (sz0 2 s rfl fun a s=>?_)))
  refine sn0 3 s rfl fun a s=>?_
  obtain ⟨x200,h198,u⟩:=bt u
  obtain ⟨b206,o207,q204,c205,h208,h201,h202,h203,h199⟩:=d.elemV 0 rfl h198
  have hsv209:=s
  have hwv210:=d
  subst h208
  have s:=hsv209
  have d:=hwv210
  obtain ⟨_,_,_,_,_,_,_,_,_,_,_,_,rfl,rfl,rfl,rfl,rfl,rfl,rfl,rfl,rfl,rfl,rfl,rfl,⟨p211,n212,k213,rfl,h214⟩⟩:=h199
  obtain rfl:=h214.1
  have d:=(d.addE (e:=SlA p211 _ k213 x200.Samples) h214).addE h203
  refine sv s (o6 runUnderlying28 sizeOf56 rfl rfl h201.1 h201.2 h202) rfl fun a s=>?_
  refine sv s (G5 (j:=0) (d.ceAt 0 rfl) rfl isAgg56 sizeOf56 rfl rfl) rfl fun a s=>?_
  obtain ⟨rv216,h215,u⟩:=bt u
  refine x9 s ((d.bE 3 rfl).2 a4B.rfl' d.bdom ⟨_,_,_,_,_,_,_,_,_,_,_,_,rfl,rfl,rfl,rfl,rfl,rfl,rfl,rfl,rfl,rfl,rfl,rfl,⟨_,_,_,rfl,d.bE 1 rfl⟩⟩ h215) (a5j (d.bE 3 rfl).1 rfl rfl) trivial rfl rfl ?_
  rintro v220 Sv217 w a h218 rfl s
  have d:=d.callB h218
  refine nl (cd s u rfl (fun u=>?_) fun u=>?_)
  ·refine sz0 2 s rfl fun a s=>?_
   obtain rfl:=oi u
   have h223:=hd168 _ rfl
   subst h223
   exact wp_ret (A8 (j6 (j6 (A8 (j6 (rt s rfl (d.ret rfl)))))))
  refine wp_skip (l8 (tn (wp_region_lit (rz0 2 s rfl fun a s=>?_))))
  exact ⟨_,io u,Sv142,wj s d [] [2,3]⟩
 obtain ⟨rv224,u,h225⟩:=a0x u
 have h225:=(hd168 _ h225.symm).symm
 subst h225
 refine wp_exit (j5 (j5 (o9 (tn (sz0 1 s rfl fun a s=>?_)))))
 obtain rfl:=oi u
 exact q1 s rfl (d.ret rfl)
theorem a1a {w0 S0 p2 k3 g6 f7 cp8 s1} {f5:Record→Option Bool} {r} (u:F9 s1 f5=some r) (hS:Dm S0 w0) (h4:(Sq p2 k3 s1).p S0 w0) (h9:(a5Q Tryz.prog g6 f7 cp8 f5).p S0 w0):Ck Tryz.prog 147 #[sl p2 k3 s1,.func (.func g6) f7.toArray cp8.toArray] w0 S0 [] u6 r:=by
 refine en 9 func147 rfl hS rfl rfl rfl fun a s d=>?_
 have d:=(d.addE h4).addE h9
 refine sz0 1 s rfl fun a s=>?_
 refine sn0 2 s rfl fun a s=>?_
 obtain ⟨rv11,h10,u⟩:=bt u
 refine cV s d (a1R h10 d.bdom (d.bE 1 rfl) (d.bE 0 rfl)) (j3 call176 rfl) rfl fun a w s d=>?_
 refine rz0 2 s rfl fun a s=>?_
 obtain rfl:=oi u
 exact q1 s rfl (d.ret rfl)
theorem b1z {w0 S0 c1 r} (u:a5K c1=some r) (hS:Dm S0 w0):Ck Tryz.prog 175 #[.int .u8 c1] w0 S0 [] u6 r:=by
 refine en 17 func175 rfl hS rfl rfl rfl fun a s d=>?_
 refine sz0 1 s rfl fun a s=>?_
 refine sn0 1 s rfl fun a s=>?_
 refine sv s (b0n (rfl) rfl) rfl fun a s=>?_
 refine mv s rfl rfl fun a s=>?_
 refine C7 3 (fun a w1=>w0=w1∧Sl 17 [(0,.int .u8 c1),(8,.bool ((decide (65≤c1)) && (decide (c1≤90))))] a) ?_ ?_
 ·rcases Bool.eq_false_or_eq_true (decide (65≤c1)) with h2 | h2
  ·have s:=s.bT 5 rfl h2
   refine I6 s (O5 rfl) ⟨_,rfl,rfl⟩ rfl rfl fun a s=>?_
   refine I6 s (b1j (rfl) rfl) ⟨_,rfl,rfl⟩ rfl rfl fun a s=>?_
   refine rz0 1 s rfl fun a s=>?_
   exact ⟨rfl,(s.fix 8 (.bool ((decide (65≤c1)) && (decide (c1≤90)))) rfl (and_t h2)).weaken _ ⟨rfl,rfl,trivial⟩⟩
  have s:=s.bF 5 rfl h2
  refine rz0 3 s rfl fun a s=>?_
  exact ⟨rfl,(s.fix 8 (.bool ((decide (65≤c1)) && (decide (c1≤90)))) rfl (and_f h2)).weaken _ ⟨rfl,rfl,trivial⟩⟩
 rintro a w1 ⟨h11,s⟩
 subst h11
 refine mv s rfl rfl fun a s=>?_
 refine C7 7 (fun a w1=>w0=w1∧Sl 17 [(16,.bool (((decide (65≤c1)) && (decide (c1≤90))) || ((decide (48≤c1)) && (decide (c1≤57)))))] a) ?_ ?_
 ·rcases Bool.eq_false_or_eq_true ((decide (65≤c1)) && (decide (c1≤90))) with h5 | h5
  ·have s:=s.bT 9 rfl h5
   refine rz0 7 s rfl fun a s=>?_
   exact ⟨rfl,(s.fix 16 (.bool (((decide (65≤c1)) && (decide (c1≤90))) || ((decide (48≤c1)) && (decide (c1≤57))))) rfl (or_t h5)).weaken _ ⟨rfl,trivial⟩⟩
  have s:=s.bF 9 rfl h5
  refine I6 s (O5 rfl) ⟨_,rfl,rfl⟩ rfl rfl fun a s=>?_
  refine I6 s (b0n (rfl) rfl) ⟨_,rfl,rfl⟩ rfl rfl fun a s=>?_
  refine I6 s (O5 rfl) ⟨_,rfl,rfl⟩ rfl rfl fun a s=>?_
  refine C7 3 (fun a w1=>w0=w1∧Sl 17 [(9,.bool false),(15,.bool ((decide (48≤c1)) && (decide (c1≤57))))] a) ?_ ?_
  ·rcases Bool.eq_false_or_eq_true (decide (48≤c1)) with h8 | h8
   ·have s:=s.bT 12 rfl h8
    refine I6 s (O5 rfl) ⟨_,rfl,rfl⟩ rfl rfl fun a s=>?_
    refine I6 s (b1j (rfl) rfl) ⟨_,rfl,rfl⟩ rfl rfl fun a s=>?_
    refine rz0 1 s rfl fun a s=>?_
    exact ⟨rfl,(s.fix 15 (.bool ((decide (48≤c1)) && (decide (c1≤57)))) rfl (and_t h8)).weaken _ ⟨rfl,rfl,trivial⟩⟩
   have s:=s.bF 12 rfl h8
   refine rz0 3 s rfl fun a s=>?_
   exact ⟨rfl,(s.fix 15 (.bool ((decide (48≤c1)) && (decide (c1≤57)))) rfl (and_f h8)).weaken _ ⟨rfl,rfl,trivial⟩⟩
  rintro a w1 ⟨h9,s⟩
  subst h9
  refine rz0 1 s rfl fun a s=>?_
  exact ⟨rfl,(s.fix 16 (.bool (((decide (65≤c1)) && (decide (c1≤90))) || ((decide (48≤c1)) && (decide (c1≤57))))) rfl (or_f h5)).weaken _ ⟨rfl,trivial⟩⟩
 rintro a w1 ⟨h10,s⟩
 subst h10
 refine rz0 1 s rfl fun a s=>?_
 obtain rfl:=oi u
 exact q1 s rfl (d.ret rfl)
theorem a4x {w0 S0 s1 low2 high3 r} (u:a2J s1 low2 high3=some r) (hS:Dm S0 w0):Ck Tryz.prog 145 #[.string s1,iv low2,iv high3] w0 S0 [] u6 r:=by
 refine en 29 func145 rfl hS rfl rfl rfl fun a s d=>?_
 refine sz0 1 s rfl fun a s=>?_
 refine wp_seq (sz0 3 s rfl fun a s=>?_)
 refine wp_block (u7 (fun sv42 a w=>∃ Sv66,Sl 29 [(0,.string s1),(1,iv low2),(2,iv high3),(9,iv (s1.size:Int)),(10,iv sv42)] a∧Wd ⟨w0,S0,[]⟩ Sv66 [] [] w) 0 u ⟨S0,wj s d [] []⟩ ?_)
 repeat clear u
 rintro sv42 a w tv79 ⟨Sv66,s,d⟩ u hd78
 refine sz0 1 s rfl fun a s=>?_
 refine wp_seq (cd s u rfl (fun u=>?_) fun u=>?_)
 ·refine sk (wp_seq (wp_block (sz0 2 s rfl fun a s=>?_)))
  refine sn0 2 s rfl fun a s=>?_
  obtain ⟨c95,h94,u⟩:=bt u
  refine sv s (a7t runUnderlying9 rfl rfl h94) rfl fun a s=>?_
  obtain ⟨rv97,h96,u⟩:=bt u
  refine cV s d (b1z h96 d.bdom) (j3 call175 rfl) rfl fun a w s d=>?_
  refine rz0 1 s rfl fun a s=>?_
  refine cd s u rfl (fun u=>?_) fun u=>?_
  ·refine sz0 1 s rfl fun a s=>?_
   obtain rfl:=oi u
   have h105:=hd78 _ rfl
   subst h105
   exact wp_ret (A8 (j6 (j6 (A8 (j6 (rt s rfl (d.ret rfl)))))))
  refine wp_skip (l8 (tn (wp_region_lit (rz0 2 s rfl fun a s=>?_))))
  exact ⟨_,io u,Sv66,wj s d [] []⟩
 obtain ⟨rv107,u,h108⟩:=a0x u
 have h108:=(hd78 _ h108.symm).symm
 subst h108
 refine wp_exit (j5 (j5 (o9 (tn (sn0 5 s rfl fun a s=>?_)))))
 refine rA 5 23 [] s d rfl rfl rfl rfl rfl fun a s=>?_
 refine rz0 1 s rfl fun a s=>?_
 obtain rfl:=oi u
 exact q1 s rfl (d.ret rfl)
theorem b1y {w0 S0 s1 r} (u:a5J s1=some r) (hS:Dm S0 w0):Ck Tryz.prog 111 #[V52 s1] w0 S0 [] u6 r:=by
 refine en 27 func111 rfl hS rfl rfl rfl fun a s d=>?_
 refine sr (wb (C52 s1) s d rfl fun b2 a w s d=>?_)
 refine rz0 1 s rfl fun a s=>?_
 refine sn 2 [0] s d rfl rfl fun a s=>?_
 obtain ⟨rv4,h3,u⟩:=bt u
 refine cV s d (a4x h3 d.bdom) (j3 call145 rfl) rfl fun a w s d=>?_
 refine mv s rfl rfl fun a s=>?_
 obtain ⟨c18,hc18,u⟩:=bt u
 refine C7 4 (fun a w=>∃ Sv19,Sl 27 [(1,pt b2),(10,.bool c18)] a∧Wd ⟨w0,S0,[]⟩ Sv19 [.box b2 (C52 s1) 52] [] w) ?_ ?_
 ·rcases Bool.eq_false_or_eq_true rv4 with h17 | h17
  ·have s:=s.bT 6 rfl h17
   have u:=E9 hc18 h17
   refine rn 2 [0] s d rfl rfl fun a s=>?_
   obtain ⟨rv21,h20,u⟩:=bt u
   refine x9 s (a4x h20 d.bdom) (j3 call145 rfl) ⟨_,rfl,rfl⟩ rfl rfl ?_
   rintro v25 Sv22 w a h23 rfl s
   have d:=d.callB h23
   refine sv s (X4 rfl rfl) rfl fun a s=>?_
   refine wpList_nil ?_
   obtain rfl:=oi u
   exact tn ⟨S0,wj s d [0] []⟩
  have s:=s.bF 6 rfl h17
  have u:=F7 hc18 h17
  refine rn0 4 s rfl fun a s=>?_
  refine wpList_nil ?_
  obtain rfl:=oi u
  exact tn ⟨S0,wj s d [0] []⟩
 rintro a w ⟨Sv19,s,d⟩
 refine mv s rfl rfl fun a s=>?_
 obtain ⟨c35,hc35,u⟩:=bt u
 refine C7 4 (fun a w=>∃ Sv36,Sl 27 [(1,pt b2),(15,.bool c35)] a∧Wd ⟨w0,S0,[]⟩ Sv36 [.box b2 (C52 s1) 52] [] w) ?_ ?_
 ·rcases Bool.eq_false_or_eq_true c18 with h34 | h34
  ·have s:=s.bT 11 rfl h34
   have u:=E9 hc35 h34
   refine rn 2 [0] s d rfl rfl fun a s=>?_
   obtain ⟨rv38,h37,u⟩:=bt u
   refine x9 s (a4x h37 d.bdom) (j3 call145 rfl) ⟨_,rfl,rfl⟩ rfl rfl ?_
   rintro v42 Sv39 w a h40 rfl s
   have d:=d.callB h40
   refine sv s (X4 rfl rfl) rfl fun a s=>?_
   refine wpList_nil ?_
   obtain rfl:=oi u
   exact tn ⟨Sv19,wj s d [0] []⟩
  have s:=s.bF 11 rfl h34
  have u:=F7 hc35 h34
  refine rn0 4 s rfl fun a s=>?_
  refine wpList_nil ?_
  obtain rfl:=oi u
  exact tn ⟨Sv19,wj s d [0] []⟩
 rintro a w ⟨Sv36,s,d⟩
 refine mv s rfl rfl fun a s=>?_
 refine rA 5 16 [0] s d rfl rfl rfl rfl rfl fun a s=>?_
 refine mv s rfl rfl fun a s=>?_
 obtain ⟨c53,hc53,u⟩:=bt u
 refine C7 4 (fun a w=>∃ Sv54,Sl 27 [(26,.bool c53)] a∧Wd ⟨w0,S0,[]⟩ Sv54 [] [] w) ?_ ?_
 ·rcases Bool.eq_false_or_eq_true (c35 && ((s1.Location.size:Int) != 1)) with h52 | h52
  ·have s:=s.bT 22 rfl h52
   have u:=E9 hc53 h52
   refine rn 2 [0] s d rfl rfl fun a s=>?_
   obtain ⟨rv56,h55,u⟩:=bt u
   refine x9 s (a4x h55 d.bdom) (j3 call145 rfl) ⟨_,rfl,rfl⟩ rfl rfl ?_
   rintro v60 Sv57 w a h58 rfl s
   have d:=d.callB h58
   refine sv s (X4 rfl rfl) rfl fun a s=>?_
   refine wpList_nil ?_
   obtain rfl:=oi u
   exact tn ⟨Sv36,wj s d [] []⟩
  have s:=s.bF 22 rfl h52
  have u:=F7 hc53 h52
  refine rn0 4 s rfl fun a s=>?_
  refine wpList_nil ?_
  obtain rfl:=oi u
  exact tn ⟨Sv36,wj s d [] []⟩
 rintro a w ⟨Sv54,s,d⟩
 refine rz0 1 s rfl fun a s=>?_
 obtain rfl:=oi u
 exact q1 s rfl (d.ret rfl)
theorem a2Y {w0 S0 n1 low2 high3 r} (u:a3U n1 low2 high3=some r) (hS:Dm S0 w0):Ck Tryz.prog 112 #[iv n1,iv low2,iv high3] w0 S0 [] u6 r:=by
 refine en 15 func112 rfl hS rfl rfl rfl fun a s d=>?_
 refine sz0 1 s rfl fun a s=>?_
 refine sn0 4 s rfl fun a s=>?_
 refine rA 4 10 [] s d rfl rfl rfl rfl rfl fun a s=>?_
 refine rz0 1 s rfl fun a s=>?_
 obtain rfl:=oi u
 exact q1 s rfl (d.ret rfl)
theorem a4I {w0 S0 n1 low2 high3 r} (u:a6y n1 low2 high3=some r) (hS:Dm S0 w0):Ck Tryz.prog 134 #[iv n1,iv low2,iv high3] w0 S0 [] u6 r:=by
 refine en 15 func134 rfl hS rfl rfl rfl fun a s d=>?_
 refine sz0 1 s rfl fun a s=>?_
 refine sn0 4 s rfl fun a s=>?_
 refine rA 4 10 [] s d rfl rfl rfl rfl rfl fun a s=>?_
 refine rz0 1 s rfl fun a s=>?_
 obtain rfl:=oi u
 exact q1 s rfl (d.ret rfl)
theorem b4B {w0 S0 a1 b2 r} (u:a9Y a1 b2=some r) (hS:Dm S0 w0):Ck Tryz.prog 170 #[iv a1,iv b2] w0 S0 [] j4 r:=by
 refine en 12 func170 rfl hS rfl rfl rfl fun a s d=>?_
 refine sz0 1 s rfl fun a s=>?_
 refine wp_seq ?_
 obtain ⟨e21,h32,u⟩:=bt u
 refine q8 (fun a w=>∃ Sv22,Sl 12 [(0,iv e21)] a∧Wd ⟨w0,S0,[]⟩ Sv22 [] [] w) ?_ ?_
 ·refine wp_block (u7 (fun sv3 a w=>∃ Sv13,Sl 12 [(0,iv sv3.1),(1,iv sv3.2)] a∧Wd ⟨w0,S0,[]⟩ Sv13 [] [] w) (a1,b2) h32 ⟨S0,wj s d [] []⟩ ?_)
  clear h32
  repeat clear u
  rintro sv3 a w tv19 ⟨Sv13,s,d⟩ u hd18
  refine wp_seq (sz0 2 s rfl fun a s=>?_)
  refine cd s u rfl (fun u=>?_) fun u=>?_
  ·refine sk (wp_block ?_)
   obtain ⟨rem29,h28,u⟩:=bt u
   refine A9 (fun a w=>∃ Sv30,Sl 12 [(0,iv sv3.2),(1,iv rem29)] a∧Wd ⟨w0,S0,[]⟩ Sv30 [] [] w) ?_ ?_
   ·refine h_c [] [] d rfl rfl (by kernel_rfl) rfl fun hC d=>?_
    refine gn 3 [0,1,2] [] s hC rfl rfl rfl fun a s=>?_
    refine gv s 3 rfl rfl hC (fun w hC=>b3Z rfl rfl h28) fun a s=>?_
    refine gn 2 [4,5] [] s hC rfl rfl rfl fun a s=>?_
    refine y7 (by kernel_rfl) ?_
    exact ⟨Sv13,wj s d [] []⟩
   rintro a w ⟨Sv30,s,d⟩
   exact l8 (tn ⟨_,io u,Sv30,wj s d [] []⟩)
  refine wp_exit (j5 (j5 (o9 ?_)))
  obtain rfl:=oi u
  have h31:=hd18 _ rfl
  subst h31
  exact tn ⟨Sv13,wj s d [] []⟩
 rintro a w ⟨Sv22,s,d⟩
 refine tn (sz0 2 s rfl fun a s=>?_)
 obtain rfl:=oi u
 exact q1 s rfl (d.ret rfl)
theorem a9c {w0 S0 r1 r} (u:a5Z r1=some r) (hS:Dm S0 w0):Ck Tryz.prog 133 #[V54 r1] w0 S0 [] u6 r:=by
 refine en 19 func133 rfl hS rfl rfl rfl fun a s d=>?_
 refine sr (wb (C54 r1) s d rfl fun b2 a w s d=>?_)
 refine rz0 1 s rfl fun a s=>?_
 refine sn 2 [0] s d rfl rfl fun a s=>?_
 obtain ⟨rv4,h3,u⟩:=bt u
 refine cV s d (a4I h3 d.bdom) (j3 call134 rfl) rfl fun a w s d=>?_
 refine mv s rfl rfl fun a s=>?_
 obtain ⟨c18,hc18,u⟩:=bt u
 refine C7 4 (fun a w=>∃ Sv19,Sl 19 [(1,pt b2),(10,.bool c18)] a∧Wd ⟨w0,S0,[]⟩ Sv19 [.box b2 (C54 r1) 54] [] w) ?_ ?_
 ·rcases Bool.eq_false_or_eq_true rv4 with h17 | h17
  ·have s:=s.bT 6 rfl h17
   have u:=E9 hc18 h17
   refine rn 2 [0] s d rfl rfl fun a s=>?_
   obtain ⟨rv21,h20,u⟩:=bt u
   refine x9 s (a4I h20 d.bdom) (j3 call134 rfl) ⟨_,rfl,rfl⟩ rfl rfl ?_
   rintro v25 Sv22 w a h23 rfl s
   have d:=d.callB h23
   refine sv s (X4 rfl rfl) rfl fun a s=>?_
   refine wpList_nil ?_
   obtain rfl:=oi u
   exact tn ⟨S0,wj s d [0] []⟩
  have s:=s.bF 6 rfl h17
  have u:=F7 hc18 h17
  refine rn0 4 s rfl fun a s=>?_
  refine wpList_nil ?_
  obtain rfl:=oi u
  exact tn ⟨S0,wj s d [0] []⟩
 rintro a w ⟨Sv19,s,d⟩
 refine mv s rfl rfl fun a s=>?_
 obtain ⟨c35,hc35,u⟩:=bt u
 refine C7 7 (fun a w=>∃ Sv36,Sl 19 [(18,.bool c35)] a∧Wd ⟨w0,S0,[]⟩ Sv36 [] [] w) ?_ ?_
 ·rcases Bool.eq_false_or_eq_true c18 with h34 | h34
  ·have s:=s.bT 11 rfl h34
   have u:=E9 hc35 h34
   refine rn 4 [0,0] s d rfl rfl fun a s=>?_
   obtain ⟨rv38,h37,u⟩:=bt u
   refine x9 s (b4B h37 d.bdom) (j3 call170 rfl) ⟨_,rfl,rfl⟩ rfl rfl ?_
   rintro v42 Sv39 w a h40 rfl s
   have d:=d.callB h40
   refine rn0 2 s rfl fun a s=>?_
   refine wpList_nil ?_
   obtain rfl:=oi u
   exact tn ⟨Sv19,wj s d [] []⟩
  have s:=s.bF 11 rfl h34
  have u:=F7 hc35 h34
  refine rn0 7 s rfl fun a s=>?_
  refine wpList_nil ?_
  obtain rfl:=oi u
  exact tn ⟨Sv19,wj s d [] []⟩
 rintro a w ⟨Sv36,s,d⟩
 refine rz0 1 s rfl fun a s=>?_
 obtain rfl:=oi u
 exact q1 s rfl (d.ret rfl)
theorem a8s {w0 S0 r1 r} (u:a5l r1=some r) (hS:Dm S0 w0):Ck Tryz.prog 171 #[V54 r1] w0 S0 [] j4 r:=by
 refine en 6 func171 rfl hS rfl rfl rfl fun a s d=>?_
 refine sr (wb (C54 r1) s d rfl fun b2 a w s d=>?_)
 refine rz0 1 s rfl fun a s=>?_
 refine sn 3 [0] s d rfl rfl fun a s=>?_
 obtain ⟨x4,h3,u⟩:=bt u
 refine sv s (o8 rfl h3) rfl fun a s=>?_
 refine nl ?_
 obtain rfl:=oi u
 exact q1 s rfl (d.ret rfl)
theorem b2E {w0 S0 r1 k2 r} (u:a7N r1 k2=some r) (hS:Dm S0 w0):Ck Tryz.prog 135 #[V54 r1,iv k2] w0 S0 [] j4 r:=by
 refine en 12 func135 rfl hS rfl rfl rfl fun a s d=>?_
 refine sr (wb (C54 r1) s d rfl fun b3 a w s d=>?_)
 refine rz0 1 s rfl fun a s=>?_
 refine wp_seq ?_
 obtain ⟨rv5,h4,u⟩:=bt u
 obtain ⟨quo7,h6,u⟩:=bt u
 refine A9 (fun a w=>∃ Sv8,Sl 12 [(4,iv quo7)] a∧Wd ⟨w0,S0,[]⟩ Sv8 [] [] w) ?_ ?_
 ·refine h_c [0] [] d rfl rfl (by kernel_rfl) rfl fun hC d=>?_
  refine gn 4 [0,1,4,5] [0,0] s hC rfl rfl rfl fun a s=>?_
  refine ho 2 rfl ?_
  refine cV s d (a8s h4 d.bdom) (j3 call171 rfl) rfl fun a w s d=>?_
  refine h_n [0] [] d rfl rfl fun hC=>?_
  refine gv s 3 rfl rfl hC (fun w hC=>y_mul rfl rfl) fun a s=>?_
  refine gv s 6 rfl rfl hC (fun w hC=>b0W rfl rfl h6) fun a s=>?_
  refine gv s 7 rfl rfl hC (fun w hC=>R8 rfl) fun a s=>?_
  refine y7 (by kernel_rfl) ?_
  exact ⟨S0,wj s d [] []⟩
 rintro a w ⟨Sv8,s,d⟩
 refine tn ?_
 obtain rfl:=oi u
 exact q1 s rfl (d.ret rfl)
abbrev a7M (w0:World) (X:List Nat) (r:(Int × Int)):Rd:=fun S w v=>v=.tuple #[iv r.1,iv r.2]
theorem a2W {w0 S0 start1 r2 k3 r} (u:a2V start1 r2 k3=some r) (hS:Dm S0 w0):Ck Tryz.prog 94 #[iv start1,V54 r2,iv k3] w0 S0 [] a7M r:=by
 refine en 24 func94 rfl hS rfl rfl rfl fun a s d=>?_
 refine sr (wb (C54 r2) s d rfl fun b4 a w s d=>?_)
 refine rz0 2 s rfl fun a s=>?_
 refine wp_seq (sn 1 [0] s d rfl rfl fun a s=>?_)
 obtain ⟨rv6,h5,u⟩:=bt u
 refine cV s d (a9c h5 d.bdom) (j3 call133 rfl) rfl fun a w s d=>?_
 refine rz0 1 s rfl fun a s=>?_
 refine cd s u rfl (fun u=>?_) fun u=>?_
 ·refine sz0 2 s rfl fun a s=>?_
  obtain rfl:=oi u
  exact wp_ret (j6 (Q8 s rfl (q9 rfl) (q9 rfl) (d.ret rfl)))
 refine sk (wp_seq (sn0 1 s rfl fun a s=>?_))
 obtain ⟨rv15,h14,u⟩:=bt u
 refine cV s d (a4I h14 d.bdom) (j3 call134 rfl) rfl fun a w s d=>?_
 refine rn0 2 s rfl fun a s=>?_
 obtain ⟨c29,hc29,u⟩:=bt u
 refine C7 4 (fun a w=>∃ Sv30,Sl 24 [(0,iv start1),(2,iv k3),(4,pt b4),(18,.bool c29)] a∧Wd ⟨w0,S0,[]⟩ Sv30 [.box b4 (C54 r2) 54] [] w) ?_ ?_
 ·rcases Bool.eq_false_or_eq_true (!rv15) with h28 | h28
  ·have s:=s.bT 14 rfl h28
   have u:=E9 hc29 h28
   refine rn0 4 s rfl fun a s=>?_
   refine wpList_nil ?_
   obtain rfl:=oi u
   exact tn ⟨S0,wj s d [0] []⟩
  have s:=s.bF 14 rfl h28
  have u:=F7 hc29 h28
  refine I6 s (O5 rfl) ⟨_,rfl,rfl⟩ rfl rfl fun a s=>?_
  obtain ⟨rv32,h31,u⟩:=bt u
  refine x9 s (a4I h31 d.bdom) (j3 call134 rfl) ⟨_,rfl,rfl⟩ rfl rfl ?_
  rintro v36 Sv33 w a h34 rfl s
  have d:=d.callB h34
  refine rn0 2 s rfl fun a s=>?_
  refine wpList_nil ?_
  obtain rfl:=oi u
  exact tn ⟨S0,wj s d [0] []⟩
 rintro a w ⟨Sv30,s,d⟩
 refine nl (cd s u rfl (fun u=>?_) fun u=>?_)
 ·refine sz0 2 s rfl fun a s=>?_
  obtain rfl:=oi u
  exact wp_ret (j6 (Q8 s rfl (q9 rfl) (q9 rfl) (d.ret rfl)))
 refine sk (sn 3 [0] s d rfl rfl fun a s=>?_)
 obtain ⟨rv41,h40,u⟩:=bt u
 refine cV s d (b2E h40 d.bdom) (j3 call135 rfl) rfl fun a w s d=>?_
 refine sv s (a9j rfl rfl) rfl fun a s=>?_
 obtain ⟨x48,h47,u⟩:=bt u
 refine sv s (o8 rfl h47) rfl fun a s=>?_
 refine rz0 1 s rfl fun a s=>?_
 obtain rfl:=oi u
 exact wp_ret (Q8 s rfl (q9 rfl) (q9 rfl) (d.ret rfl))
theorem a5w {w0 S0 p2 k3 g6 f7 cp8 s1} {f5:Int→Option Bool} {r} (u:U7 s1 f5=some r) (hS:Dm S0 w0) (h4:(Sq p2 k3 s1).p S0 w0) (h9:(a5Q Tryz.prog g6 f7 cp8 f5).p S0 w0):Ck Tryz.prog 146 #[sl p2 k3 s1,.func (.func g6) f7.toArray cp8.toArray] w0 S0 [] j4 r:=by
 refine en 19 func146 rfl hS rfl rfl rfl fun a s d=>?_
 have d:=(d.addE h4).addE h9
 refine sz0 1 s rfl fun a s=>?_
 refine wp_seq (sz0 3 s rfl fun a s=>?_)
 refine wp_block (u7 (fun sv78 a w=>∃ Sv122,Sl 19 [(0,sl p2 k3 s1),(1,.func (.func g6) f7.toArray cp8.toArray),(7,iv (s1.length:Int)),(8,iv sv78)] a∧Wd ⟨w0,S0,[]⟩ Sv122 [] [Sq p2 k3 s1,a5Q Tryz.prog g6 f7 cp8 f5] w) 0 u ⟨S0,wj s d [] [1,0]⟩ ?_)
 repeat clear u
 rintro sv78 a w tv145 ⟨Sv122,s,d⟩ u hd144
 refine sz0 1 s rfl fun a s=>?_
 refine wp_seq (cd s u rfl (fun u=>?_) fun u=>?_)
 ·refine sk (wp_seq (wp_block (sz0 2 s rfl fun a s=>?_)))
  refine sn0 3 s rfl fun a s=>?_
  obtain ⟨x172,h170,u⟩:=bt u
  obtain ⟨b178,o179,q176,c177,h180,h173,h174,h175,h171⟩:=d.elemV 0 rfl h170
  have hsv181:=s
  have hwv182:=d
  subst h180
  have s:=hsv181
  have d:=hwv182
  obtain ⟨_,rfl,rfl⟩:=h171
  have d:=d.addE h175
  refine sv s (o6 runUnderlying22 sizeOf3 rfl rfl h173.1 h173.2 h174) rfl fun a s=>?_
  refine sv s (C8 (j:=0) (d.ceAt 0 rfl) rfl isAgg3 rfl) rfl fun a s=>?_
  obtain ⟨rv184,h183,u⟩:=bt u
  refine x9 s ((d.bE 2 rfl).2 a4B.rfl' d.bdom ⟨_,rfl,rfl⟩ h183) (a5j (d.bE 2 rfl).1 rfl rfl) trivial rfl rfl ?_
  rintro v188 Sv185 w a h186 rfl s
  have d:=d.callB h186
  refine nl (cd s u rfl (fun u=>?_) fun u=>?_)
  ·refine sz0 2 s rfl fun a s=>?_
   obtain rfl:=oi u
   have h191:=hd144 _ rfl
   subst h191
   exact wp_ret (A8 (j6 (j6 (A8 (j6 (rt s rfl (d.ret rfl)))))))
  refine wp_skip (l8 (tn (wp_region_lit (rz0 2 s rfl fun a s=>?_))))
  exact ⟨_,io u,Sv122,wj s d [] [1,2]⟩
 obtain ⟨rv192,u,h193⟩:=a0x u
 have h193:=(hd144 _ h193.symm).symm
 subst h193
 refine wp_exit (j5 (j5 (o9 (tn (sz0 1 s rfl fun a s=>?_)))))
 obtain rfl:=oi u
 exact q1 s rfl (d.ret rfl)
theorem a4C {w0 S0 p2 k3 g6 f7 cp8 s1} {f5:Int→Option Bool} {r} (u:Q3 s1 f5=some r) (hS:Dm S0 w0) (h4:(Sq p2 k3 s1).p S0 w0) (h9:(a5Q Tryz.prog g6 f7 cp8 f5).p S0 w0):Ck Tryz.prog 113 #[sl p2 k3 s1,.func (.func g6) f7.toArray cp8.toArray] w0 S0 [] u6 r:=by
 refine en 9 func113 rfl hS rfl rfl rfl fun a s d=>?_
 have d:=(d.addE h4).addE h9
 refine sz0 1 s rfl fun a s=>?_
 refine sn0 2 s rfl fun a s=>?_
 obtain ⟨rv11,h10,u⟩:=bt u
 refine cV s d (a5w h10 d.bdom (d.bE 1 rfl) (d.bE 0 rfl)) (j3 call146 rfl) rfl fun a w s d=>?_
 refine rz0 2 s rfl fun a s=>?_
 obtain rfl:=oi u
 exact q1 s rfl (d.ret rfl)
theorem a8Y {w0 S0 x1 r} (u:a2X x1=some r) (hS:Dm S0 w0):Ck Tryz.prog 114 #[iv x1] w0 S0 [] u6 r:=by
 refine en 6 func114 rfl hS rfl rfl rfl fun a s d=>?_
 refine sz0 1 s rfl fun a s=>?_
 refine sn0 1 s rfl fun a s=>?_
 obtain ⟨rv3,h2,u⟩:=bt u
 refine cV s d (a2Y h2 d.bdom) (j3 call112 rfl) rfl fun a w s d=>?_
 refine rz0 2 s rfl fun a s=>?_
 obtain rfl:=oi u
 exact q1 s rfl (d.ret rfl)
theorem a8X (S0:Nat→Prop) (w0:World):(a5Q Tryz.prog 114 [] [] a2X).p S0 w0:=by
  refine ⟨call114,?_⟩
  rintro S1 w1 hk hS c0 x0 r1 ⟨_,rfl,rfl⟩ hf
  exact a8Y hf hS
theorem a0a {w0 S0 p2 k3 r1 r} (u:W9 r1=some r) (hS:Dm S0 w0) (h4:(Sq p2 k3 r1.Samples).p S0 w0):Ck Tryz.prog 84 #[V56 r1 p2 k3] w0 S0 [] u6 r:=by
 refine en 68 func84 rfl hS rfl rfl rfl fun a s d=>?_
 have d:=d.addE h4
 refine sr (wb (C56 r1 p2 k3) s d rfl fun b5 a w s d=>?_)
 refine rz0 1 s rfl fun a s=>?_
 refine sn 3 [0] s d rfl rfl fun a s=>?_
 obtain ⟨n7,h6,u⟩:=bt u
 refine sv s (o8 rfl h6) rfl fun a s=>?_
 refine nl (wp_seq (sn 2 [0] s d rfl rfl fun a s=>?_))
 obtain ⟨rv9,h8,u⟩:=bt u
 refine cV s d (b1y h8 d.bdom) (j3 call111 rfl) rfl fun a w s d=>?_
 refine rn0 2 s rfl fun a s=>?_
 obtain ⟨c23,hc23,u⟩:=bt u
 refine C7 4 (fun a w=>∃ Sv24,Sl 68 [(1,pt b5),(3,iv n7),(17,.bool c23)] a∧Wd ⟨w0,S0,[]⟩ Sv24 [.box b5 (C56 r1 p2 k3) 56] [Sq p2 k3 r1.Samples] w) ?_ ?_
 ·rcases Bool.eq_false_or_eq_true (!rv9) with h22 | h22
  ·have s:=s.bT 13 rfl h22
   have u:=E9 hc23 h22
   refine rn0 4 s rfl fun a s=>?_
   refine wpList_nil ?_
   obtain rfl:=oi u
   exact tn ⟨S0,wj s d [0] [0]⟩
  have s:=s.bF 13 rfl h22
  have u:=F7 hc23 h22
  refine I6 s (O5 rfl) ⟨_,rfl,rfl⟩ rfl rfl fun a s=>?_
  obtain ⟨rv26,h25,u⟩:=bt u
  refine x9 s (a2Y h25 d.bdom) (j3 call112 rfl) ⟨_,rfl,rfl⟩ rfl rfl ?_
  rintro v30 Sv27 w a h28 rfl s
  have d:=d.callB h28
  refine rn0 2 s rfl fun a s=>?_
  refine wpList_nil ?_
  obtain rfl:=oi u
  exact tn ⟨S0,wj s d [0] [0]⟩
 rintro a w ⟨Sv24,s,d⟩
 refine mv s rfl rfl fun a s=>?_
 obtain ⟨c40,hc40,u⟩:=bt u
 refine C7 7 (fun a w=>∃ Sv41,Sl 68 [(1,pt b5),(3,iv n7),(25,.bool c40)] a∧Wd ⟨w0,S0,[]⟩ Sv41 [.box b5 (C56 r1 p2 k3) 56] [Sq p2 k3 r1.Samples] w) ?_ ?_
 ·rcases Bool.eq_false_or_eq_true c23 with h39 | h39
  ·have s:=s.bT 18 rfl h39
   have u:=E9 hc40 h39
   refine rn0 7 s rfl fun a s=>?_
   refine wpList_nil ?_
   obtain rfl:=oi u
   exact tn ⟨Sv24,wj s d [0] [0]⟩
  have s:=s.bF 18 rfl h39
  have u:=F7 hc40 h39
  refine rn 4 [0] s d rfl rfl fun a s=>?_
  obtain ⟨rv43,h42,u⟩:=bt u
  refine x9 s (a2Y h42 d.bdom) (j3 call112 rfl) ⟨_,rfl,rfl⟩ rfl rfl ?_
  rintro v47 Sv44 w a h45 rfl s
  have d:=d.callB h45
  refine rn0 2 s rfl fun a s=>?_
  refine wpList_nil ?_
  obtain rfl:=oi u
  exact tn ⟨Sv24,wj s d [0] [0]⟩
 rintro a w ⟨Sv41,s,d⟩
 refine mv s rfl rfl fun a s=>?_
 obtain ⟨c57,hc57,u⟩:=bt u
 refine C7 5 (fun a w=>∃ Sv58,Sl 68 [(1,pt b5),(3,iv n7),(31,.bool c57)] a∧Wd ⟨w0,S0,[]⟩ Sv58 [.box b5 (C56 r1 p2 k3) 56] [Sq p2 k3 r1.Samples] w) ?_ ?_
 ·rcases Bool.eq_false_or_eq_true c40 with h56 | h56
  ·have s:=s.bT 26 rfl h56
   have u:=E9 hc57 h56
   refine rn0 5 s rfl fun a s=>?_
   refine wpList_nil ?_
   obtain rfl:=oi u
   exact tn ⟨Sv41,wj s d [0] [0]⟩
  have s:=s.bF 26 rfl h56
  have u:=F7 hc57 h56
  refine rn 2 [0] s d rfl rfl fun a s=>?_
  obtain ⟨rv60,h59,u⟩:=bt u
  refine x9 s (a2Y h59 d.bdom) (j3 call112 rfl) ⟨_,rfl,rfl⟩ rfl rfl ?_
  rintro v64 Sv61 w a h62 rfl s
  have d:=d.callB h62
  refine rn0 2 s rfl fun a s=>?_
  refine wpList_nil ?_
  obtain rfl:=oi u
  exact tn ⟨Sv41,wj s d [0] [0]⟩
 rintro a w ⟨Sv58,s,d⟩
 refine mv s rfl rfl fun a s=>?_
 obtain ⟨c74,hc74,u⟩:=bt u
 refine C7 5 (fun a w=>∃ Sv75,Sl 68 [(1,pt b5),(3,iv n7),(37,.bool c74)] a∧Wd ⟨w0,S0,[]⟩ Sv75 [.box b5 (C56 r1 p2 k3) 56] [Sq p2 k3 r1.Samples] w) ?_ ?_
 ·rcases Bool.eq_false_or_eq_true c57 with h73 | h73
  ·have s:=s.bT 32 rfl h73
   have u:=E9 hc74 h73
   refine rn0 5 s rfl fun a s=>?_
   refine wpList_nil ?_
   obtain rfl:=oi u
   exact tn ⟨Sv58,wj s d [0] [0]⟩
  have s:=s.bF 32 rfl h73
  have u:=F7 hc74 h73
  refine rn 2 [0] s d rfl rfl fun a s=>?_
  obtain ⟨rv77,h76,u⟩:=bt u
  refine x9 s (a2Y h76 d.bdom) (j3 call112 rfl) ⟨_,rfl,rfl⟩ rfl rfl ?_
  rintro v81 Sv78 w a h79 rfl s
  have d:=d.callB h79
  refine rn0 2 s rfl fun a s=>?_
  refine wpList_nil ?_
  obtain rfl:=oi u
  exact tn ⟨Sv58,wj s d [0] [0]⟩
 rintro a w ⟨Sv75,s,d⟩
 refine mv s rfl rfl fun a s=>?_
 obtain ⟨c91,hc91,u⟩:=bt u
 refine C7 5 (fun a w=>∃ Sv92,Sl 68 [(1,pt b5),(3,iv n7),(43,.bool c91)] a∧Wd ⟨w0,S0,[]⟩ Sv92 [.box b5 (C56 r1 p2 k3) 56] [Sq p2 k3 r1.Samples] w) ?_ ?_
 ·rcases Bool.eq_false_or_eq_true c74 with h90 | h90
  ·have s:=s.bT 38 rfl h90
   have u:=E9 hc91 h90
   refine rn0 5 s rfl fun a s=>?_
   refine wpList_nil ?_
   obtain rfl:=oi u
   exact tn ⟨Sv75,wj s d [0] [0]⟩
  have s:=s.bF 38 rfl h90
  have u:=F7 hc91 h90
  refine rn 2 [0] s d rfl rfl fun a s=>?_
  obtain ⟨rv94,h93,u⟩:=bt u
  refine x9 s (a2Y h93 d.bdom) (j3 call112 rfl) ⟨_,rfl,rfl⟩ rfl rfl ?_
  rintro v98 Sv95 w a h96 rfl s
  have d:=d.callB h96
  refine rn0 2 s rfl fun a s=>?_
  refine wpList_nil ?_
  obtain rfl:=oi u
  exact tn ⟨Sv75,wj s d [0] [0]⟩
 rintro a w ⟨Sv92,s,d⟩
 refine nl (cd s u rfl (fun u=>?_) fun u=>?_)
 ·refine sz0 1 s rfl fun a s=>?_
  obtain rfl:=oi u
  exact wp_ret (j6 (rt s rfl (d.ret rfl)))
 refine sk (sn 8 [0,0,0] s d rfl rfl fun a s=>?_)
 obtain ⟨rv103,h102,u⟩:=bt u
 refine cV s d (a2W h102 d.bdom) (j3 call94 rfl) rfl fun a w s d=>?_
 refine rz0 5 s rfl fun a s=>?_
 refine sn0 3 s rfl fun a s=>?_
 refine rA 3 58 [] s d rfl rfl rfl rfl rfl fun a s=>?_
 refine mv s rfl rfl fun a s=>?_
 obtain ⟨c118,hc118,u⟩:=bt u
 refine C7 5 (fun a w=>∃ Sv119,Sl 68 [(67,.bool c118)] a∧Wd ⟨w0,S0,[]⟩ Sv119 [] [] w) ?_ ?_
 ·rcases Bool.eq_false_or_eq_true ((rv103.2 == 0) && (decide (rv103.1≤9007199254740992))) with h117 | h117
  ·have s:=s.bT 62 rfl h117
   have u:=E9 hc118 h117
   refine rn 2 [0] s d rfl rfl fun a s=>?_
   obtain ⟨rv121,h120,u⟩:=bt u
   refine x9 s (a4C h120 d.bdom (d.bE 0 rfl) (a8X _ _)) (j3 call113 rfl) ⟨_,rfl,rfl⟩ rfl rfl ?_
   rintro v125 Sv122 w a h123 rfl s
   have d:=d.callB h123
   refine rn0 2 s rfl fun a s=>?_
   refine wpList_nil ?_
   obtain rfl:=oi u
   exact tn ⟨Sv92,wj s d [] []⟩
  have s:=s.bF 62 rfl h117
  have u:=F7 hc118 h117
  refine rn0 5 s rfl fun a s=>?_
  refine wpList_nil ?_
  obtain rfl:=oi u
  exact tn ⟨Sv92,wj s d [] []⟩
 rintro a w ⟨Sv119,s,d⟩
 refine rz0 1 s rfl fun a s=>?_
 obtain rfl:=oi u
 exact q1 s rfl (d.ret rfl)
theorem a8j {w0 S0 p2 k3 b6 p7 k8 r1 x5 r} (u:P7 r1 x5=some r) (hS:Dm S0 w0) (h4:(Sq p2 k3 r1.Samples).p S0 w0) (h9:(CeA b6 0 [sl p7 k8 x5]).p S0 w0) (h10:(Sq p7 k8 x5).p S0 w0):Ck Tryz.prog 148 #[V56 r1 p2 k3,pt b6] w0 S0 [] u6 r:=by
 refine en 16 func148 rfl hS rfl rfl rfl fun a s d=>?_
 have d:=((d.addE h4).addE h9).addE h10
 refine sr (wb (C56 r1 p2 k3) s d rfl fun b11 a w s d=>?_)
 refine rz0 1 s rfl fun a s=>?_
 refine wp_seq ?_
 obtain ⟨rv13,h12,u⟩:=bt u
 obtain ⟨c31,hc31,u⟩:=bt u
 refine A9 (fun a w=>∃ Sv32,Sl 16 [(3,.bool c31)] a∧Wd ⟨w0,S0,[]⟩ Sv32 [] [] w) ?_ ?_
 ·rcases Bool.eq_false_or_eq_true (!rv13) with h33 | h33
  ·have h34:=E9 hc31 h33
   refine h_c [0] [1] d rfl rfl (by kernel_rfl) rfl fun hC d=>?_
   refine gv s 0 rfl rfl hC (fun w hC=>a6k (hC.ownAt 0 rfl) rfl isAgg56 sizeOf56 rfl rfl) fun a s=>?_
   refine ho 1 rfl ?_
   refine cV s d (a0a h12 d.bdom (d.bE 2 rfl)) (j3 call84 rfl) rfl fun a w s d=>?_
   refine h_n [0] [1] d rfl rfl fun hC=>?_
   refine gn 2 [2,3] [] s hC rfl rfl rfl fun a s=>?_
   have s:=s.bT 7 rfl h33
   refine gn 7 [4,5,6,7,8,9,10] [] s hC rfl rfl rfl fun a s=>?_
   refine gT s 11 rfl rfl hC rfl rfl h34 fun a s=>?_
   refine gv s 12 rfl rfl hC (fun w hC=>R8 rfl) fun a s=>?_
   refine y7 (by kernel_rfl) ?_
   exact ⟨S0,wj s d [] []⟩
  have h40:=F7 hc31 h33
  obtain ⟨x43,h41,h40⟩:=H5 h40
  obtain ⟨b49,o50,q47,c48,h51,h44,h45,h46,h42⟩:=d.elemV 0 rfl h41
  have hsv52:=s
  have hwv53:=d
  subst h51
  have s:=hsv52
  have d:=hwv53
  obtain ⟨_,_,_,_,_,_,_,_,_,_,_,_,rfl,rfl,rfl,rfl,rfl,rfl,rfl,rfl,rfl,rfl,rfl,rfl,⟨p54,n55,k56,rfl,h57⟩⟩:=h42
  obtain rfl:=h57.1
  have d:=(d.addE (e:=SlA p54 _ k56 x43.Samples) h57).addE h46
  refine h_c [0] [0,3] d rfl rfl (by kernel_rfl) rfl fun hC d=>?_
  refine gv s 0 rfl rfl hC (fun w hC=>a6k (hC.ownAt 0 rfl) rfl isAgg56 sizeOf56 rfl rfl) fun a s=>?_
  refine ho 1 rfl ?_
  refine cV s d (a0a h12 d.bdom (d.bE 4 rfl)) (j3 call84 rfl) rfl fun a w s d=>?_
  refine h_n [0] [0,3] d rfl rfl fun hC=>?_
  refine gn 2 [2,3] [] s hC rfl rfl rfl fun a s=>?_
  have s:=s.bF 7 rfl h33
  refine gn 2 [4,5] [0] s hC rfl rfl rfl fun a s=>?_
  refine gt s 6 rfl ⟨_,rfl,rfl⟩ rfl hC (fun w hC=>C8 (j:=0) (hC.ceAt 1 rfl) rfl isAgg28 rfl) fun a s=>?_
  refine gx s 7 rfl ⟨_,rfl,rfl⟩ rfl hC runUnderlying28 sizeOf56 rfl rfl h44 h45 fun a s=>?_
  refine gt s 8 rfl ⟨_,rfl,rfl⟩ rfl hC (fun w hC=>l5 (o':=q47+0) runUnderlying56 rfl sizeOf52 rfl rfl rfl) fun a s=>?_
  refine gt s 9 rfl ⟨_,rfl,rfl⟩ rfl hC (fun w hC=>G5 (j:=0) (hC.ceAt 0 rfl) rfl isAgg52 sizeOf52 rfl rfl) fun a s=>?_
  refine gt s 10 rfl ⟨_,rfl,rfl⟩ rfl hC (fun w hC=>a6V (by kernel_rfl) rfl rfl (R4 runUnderlying52 (by kernel_rfl) (EqF.cons1 rfl isAgg9 rfl rfl (a3G runUnderlying9) (EqF.cons1 rfl isAgg9 rfl rfl (a3G runUnderlying9) (EqF.cons1 rfl isAgg9 rfl rfl (a3G runUnderlying9) (EqF.cons1 rfl isAgg9 rfl rfl (a3G runUnderlying9) EqF.nil)))))) fun a s=>?_
  refine gF s 11 rfl rfl hC rfl rfl h40 fun a s=>?_
  refine gv s 12 rfl rfl hC (fun w hC=>R8 rfl) fun a s=>?_
  refine y7 (by kernel_rfl) ?_
  exact ⟨S0,wj s d [] []⟩
 rintro a w ⟨Sv32,s,d⟩
 refine tn ?_
 obtain rfl:=oi u
 exact q1 s rfl (d.ret rfl)
theorem a8i {S0 w0 b6 p7 k8 x5} (h9:(CeA b6 0 [sl p7 k8 x5]).p S0 w0) (h10:(Sq p7 k8 x5).p S0 w0):(a5Q Tryz.prog 148 [] [pt b6] (fun y0=>P7 y0 x5)).p S0 w0:=by
  refine ⟨call148,?_⟩
  rintro S1 w1 hk hS c0 x0 r1 ⟨_,_,_,_,_,_,_,_,_,_,_,_,rfl,rfl,rfl,rfl,rfl,rfl,rfl,rfl,rfl,rfl,rfl,rfl,⟨_,_,_,rfl,e0⟩⟩ hf
  obtain rfl:=e0.1
  exact a8j hf hS e0 (Asrt.mono _ hk h9) (Asrt.mono _ hk h10)
theorem b0t {w0 S0 p2 k3 l1 r} (u:a2b l1=some r) (hS:Dm S0 w0) (h4:(Sq p2 k3 l1).p S0 w0):Ck Tryz.prog 115 #[sl p2 k3 l1] w0 S0 [] u6 r:=by
 refine en 7 func115 rfl hS rfl rfl rfl fun a s d=>?_
 have d:=d.addE h4
 refine sr (wb [sl p2 k3 l1] s d rfl fun b5 a w s d=>?_)
 refine rz0 1 s rfl fun a s=>?_
 refine sn 1 [0] s d rfl rfl fun a s=>?_
 refine sv s (a9E (vs:=#[]) (us:=#[pt b5]) rfl rfl) rfl fun a s=>?_
 obtain ⟨rv7,h6,u⟩:=bt u
 refine cV s d (a1a h6 d.bdom (d.bE 0 rfl) (a8i (d.bBox 0 rfl) (d.bE 0 rfl))) (j3 call147 rfl) rfl fun a w s d=>?_
 refine rz0 2 s rfl fun a s=>?_
 obtain rfl:=oi u
 exact q1 s rfl (d.ret rfl)
theorem a2O {w0 S0 p2 k3 l1 r} (u:V6 l1=some r) (hS:Dm S0 w0) (h4:(Sq p2 k3 l1).p S0 w0):Ck Tryz.prog 86 #[sl p2 k3 l1] w0 S0 [] u6 r:=by
 refine en 10 func86 rfl hS rfl rfl rfl fun a s d=>?_
 have d:=d.addE h4
 refine sz0 1 s rfl fun a s=>?_
 refine sn0 4 s rfl fun a s=>?_
 obtain ⟨c13,hc13,u⟩:=bt u
 refine C7 3 (fun a w=>∃ Sv14,Sl 10 [(9,.bool c13)] a∧Wd ⟨w0,S0,[]⟩ Sv14 [] [] w) ?_ ?_
 ·rcases Bool.eq_false_or_eq_true (decide ((l1.length:Int)≤256)) with h12 | h12
  ·have s:=s.bT 6 rfl h12
   have u:=E9 hc13 h12
   refine I6 s (O5 rfl) ⟨_,rfl,rfl⟩ rfl rfl fun a s=>?_
   obtain ⟨rv16,h15,u⟩:=bt u
   refine x9 s (b0t h15 d.bdom (d.bE 0 rfl)) (j3 call115 rfl) ⟨_,rfl,rfl⟩ rfl rfl ?_
   rintro v20 Sv17 w a h18 rfl s
   have d:=d.callB h18
   refine sv s (X4 rfl rfl) rfl fun a s=>?_
   refine wpList_nil ?_
   obtain rfl:=oi u
   exact tn ⟨S0,wj s d [] []⟩
  have s:=s.bF 6 rfl h12
  have u:=F7 hc13 h12
  refine rn0 3 s rfl fun a s=>?_
  refine wpList_nil ?_
  obtain rfl:=oi u
  exact tn ⟨S0,wj s d [] []⟩
 rintro a w ⟨Sv14,s,d⟩
 refine rz0 1 s rfl fun a s=>?_
 obtain rfl:=oi u
 exact q1 s rfl (d.ret rfl)
theorem a5i {w0 S0 from1 to2 r} (u:Y2 from1 to2=some r) (hS:Dm S0 w0):Ck Tryz.prog 74 #[iv from1,iv to2] w0 S0 [] u6 r:=by
 refine en 16 func74 rfl hS rfl rfl rfl fun a s d=>?_
 refine sz0 1 s rfl fun a s=>?_
 refine sn0 3 s rfl fun a s=>?_
 refine rA 4 7 [] s d rfl rfl rfl rfl rfl fun a s=>?_
 refine mv s rfl rfl fun a s=>?_
 refine rA 3 12 [] s d rfl rfl rfl rfl rfl fun a s=>?_
 refine rz0 1 s rfl fun a s=>?_
 obtain rfl:=oi u
 exact q1 s rfl (d.ret rfl)
theorem a5y {w0 S0 p2 k3 l1 from5 to6 r} (u:V3 l1 from5 to6=some r) (hS:Dm S0 w0) (h4:(Sq p2 k3 l1).p S0 w0):Ck Tryz.prog 48 #[sl p2 k3 l1,iv from5,iv to6] w0 S0 [] j4 r:=by
 refine en 14 func48 rfl hS rfl rfl rfl fun a s d=>?_
 have d:=d.addE h4
 refine sz0 1 s rfl fun a s=>?_
 refine wp_seq (sn0 1 s rfl fun a s=>?_)
 obtain ⟨rv8,h7,u⟩:=bt u
 refine cV s d (a2O h7 d.bdom (d.bE 0 rfl)) (j3 call86 rfl) rfl fun a w s d=>?_
 refine rz0 1 s rfl fun a s=>?_
 refine cd s u rfl (fun u=>?_) fun u=>?_
 ·refine sz0 1 s rfl fun a s=>?_
  obtain rfl:=oi u
  exact wp_ret (j6 (rt s rfl (d.ret rfl)))
 refine sk (wp_seq (sn0 2 s rfl fun a s=>?_))
 obtain ⟨rv17,h16,u⟩:=bt u
 refine cV s d (a5i h16 d.bdom) (j3 call74 rfl) rfl fun a w s d=>?_
 refine rz0 1 s rfl fun a s=>?_
 refine cd s u rfl (fun u=>?_) fun u=>?_
 ·refine sz0 1 s rfl fun a s=>?_
  obtain rfl:=oi u
  exact wp_ret (j6 (rt s rfl (d.ret rfl)))
 refine sk (sz0 1 s rfl fun a s=>?_)
 obtain rfl:=oi u
 exact q1 s rfl (d.ret rfl)
theorem a6O {w0 S0 p2 k3 r1 i5 r} (u:a4H r1 i5=some r) (hS:Dm S0 w0) (h4:(Sq p2 k3 r1.Samples).p S0 w0):Ck Tryz.prog 116 #[V56 r1 p2 k3,iv i5] w0 S0 [] j4 r:=by
 refine en 20 func116 rfl hS rfl rfl rfl fun a s d=>?_
 have d:=d.addE h4
 refine sr (wb (C56 r1 p2 k3) s d rfl fun b6 a w s d=>?_)
 refine rz0 1 s rfl fun a s=>?_
 refine sn 8 [0,0,0] s d rfl rfl fun a s=>?_
 obtain ⟨rv8,h7,u⟩:=bt u
 refine cV s d (a2W h7 d.bdom) (j3 call94 rfl) rfl fun a w s d=>?_
 refine rz0 5 s rfl fun a s=>?_
 refine sz0 2 s rfl fun a s=>?_
 obtain rfl:=oi u
 exact q1 s rfl (d.ret rfl)
abbrev a9N (w0:World) (X:List Nat) (r:Span):Rd:=fun S w v=>v=V71 r
theorem a6u {w0 S0 p2 k3 r1 r} (u:a2y r1=some r) (hS:Dm S0 w0) (h4:(Sq p2 k3 r1.Samples).p S0 w0):Ck Tryz.prog 87 #[V56 r1 p2 k3] w0 S0 [] a9N r:=by
 refine en 11 func87 rfl hS rfl rfl rfl fun a s d=>?_
 have d:=d.addE h4
 refine sr (wb (C56 r1 p2 k3) s d rfl fun b5 a w s d=>?_)
 refine wa [iv 0,iv 0] s d zeroValue71 fun b6 a w s d=>?_
 refine nl (wp_seq ?_)
 obtain ⟨rv8,h7,u⟩:=bt u
 obtain ⟨rv10,h9,u⟩:=bt u
 refine A9 (fun a w=>∃ Sv11,Sl 11 [(2,pt b6)] a∧Wd ⟨w0,S0,[]⟩ Sv11 [.box b6 [iv rv8,iv rv10] 71] [] w) ?_ ?_
 ·refine h_c [1] [] d rfl rfl (by kernel_rfl) rfl fun hC d=>?_
  refine gn 5 [0,2,3,4,5] [0,0,0] s hC rfl rfl rfl fun a s=>?_
  refine ho 1 rfl ?_
  refine cV s d (a6O h7 d.bdom (d.bE 0 rfl)) (j3 call116 rfl) rfl fun a w s d=>?_
  refine h_n [1] [] d rfl rfl fun hC=>?_
  refine ho 6 rfl ?_
  refine cV s d (a6O h9 d.bdom (d.bE 0 rfl)) (j3 call116 rfl) rfl fun a w s d=>?_
  refine h_n [1] [] d rfl rfl fun hC=>?_
  refine gv s 7 rfl rfl hC (fun w hC=>D7 (vs:=[(0,iv rv8),(1,iv rv10)]) a6t rfl rfl) fun a s=>?_
  refine ho 8 rfl ?_
  refine ws [iv rv8,iv rv10] s d 0 rfl rfl rfl sizeOf71 fun a w s d=>?_
  refine h_n [1] [] d rfl rfl fun hC=>?_
  refine y7 (by kernel_rfl) ?_
  exact ⟨S0,wj s d [0] []⟩
 rintro a w ⟨Sv11,s,d⟩
 refine tn ?_
 obtain rfl:=oi u
 exact wp_ret (b2m s rfl (K4 d 0 rfl rfl isAgg71 sizeOf71 rfl) (d.ret rfl))
abbrev C9 (w0:World) (X:List Nat) (r:(List Span)):Rd:=fun S w v=>∃ p0_0 k0_0 c0_0,v=sl p0_0 k0_0 r∧Outs X w0 S w [.row p0_0 r.length k0_0 c0_0 71 2]∧(l7 c0_0 r).p S w
theorem a3T {w0 S0 p2 k3 s1 r} (u:K5 s1=some r) (hS:Dm S0 w0) (h4:(Sq p2 k3 s1).p S0 w0):Ck Tryz.prog 118 #[sl p2 k3 s1] w0 S0 [] C9 r:=by
 refine en 8 func118 rfl hS rfl rfl rfl fun a s d=>?_
 have d:=d.addE h4
 delta K5 at u
 refine sz0 1 s rfl fun a s=>?_
 refine wp_seq (sn0 1 s rfl fun a s=>?_)
 refine sv s (b5x runUnderlying30 rfl rfl) rfl fun a s=>?_
 refine nl ?_
 have hsv15:=s
 have hwv16:=d
 rcases p2 with _ | av8
 ·have s:=hsv15
  have d:=hwv16
  obtain rfl:=slnil (d.envAt 0 rfl)
  have u:some ([]:List Span)=some r:=by simpa [U8,maxLen] using u
  refine wp_cond_true (s.ev rfl) ?_
  refine sz0 1 s rfl fun a s=>?_
  obtain rfl:=oi u
  have d:=d.nilRow Span 71
  exact wp_ret (j6 (rt s rfl (d.ret ⟨none,0,[],rfl,(d.outs [0] (by decide) rfl),(d.envAt 0 rfl)⟩)))
 have s:=hsv15
 have d:=hwv16
 refine wp_cond_false (s.ev rfl) ?_
 refine sk (sr (a5L (α:=Span) (vs:=[]) (cs:=[]) (xs:=([]:List Span)) s d a3o rfl rfl rfl rfl rfl rfl rfl rfl trivial fun p9 a w s d=>?_))
 refine mv s rfl rfl fun a s=>?_
 obtain ⟨l11,h10,u⟩:=bt u
 refine a1q (α:=Span) s d a3o 0 rfl rfl rfl 0 rfl 1 rfl h10 rfl trivial ?_
 intro p12 k13 c14 a w s d
 refine rz0 1 s rfl fun a s=>?_
 obtain rfl:=oi u
 exact q1 s rfl (d.ret ⟨p12,k13,c14,rfl,(d.outs [0] (by decide) rfl),(d.envAt 0 rfl)⟩)
theorem a2I {w0 S0 p2 k3 g6 f7 cp8 s1} {f5:Span→Option Bool} {r} (u:M0 s1 f5=some r) (hS:Dm S0 w0) (h4:(Sq p2 k3 s1).p S0 w0) (h9:(a5Q Tryz.prog g6 f7 cp8 f5).p S0 w0):Ck Tryz.prog 149 #[sl p2 k3 s1,.func (.func g6) f7.toArray cp8.toArray] w0 S0 [] j4 r:=by
 refine en 19 func149 rfl hS rfl rfl rfl fun a s d=>?_
 have d:=(d.addE h4).addE h9
 refine sz0 1 s rfl fun a s=>?_
 refine wp_seq (sz0 3 s rfl fun a s=>?_)
 refine wp_block (u7 (fun sv78 a w=>∃ Sv122,Sl 19 [(0,sl p2 k3 s1),(1,.func (.func g6) f7.toArray cp8.toArray),(7,iv (s1.length:Int)),(8,iv sv78)] a∧Wd ⟨w0,S0,[]⟩ Sv122 [] [Sq p2 k3 s1,a5Q Tryz.prog g6 f7 cp8 f5] w) 0 u ⟨S0,wj s d [] [1,0]⟩ ?_)
 repeat clear u
 rintro sv78 a w tv145 ⟨Sv122,s,d⟩ u hd144
 refine sz0 1 s rfl fun a s=>?_
 refine wp_seq (cd s u rfl (fun u=>?_) fun u=>?_)
 ·refine sk (wp_seq (wp_block (sz0 2 s rfl fun a s=>?_)))
  refine sn0 3 s rfl fun a s=>?_
  obtain ⟨x172,h170,u⟩:=bt u
  obtain ⟨b178,o179,q176,c177,h180,h173,h174,h175,h171⟩:=d.elemV 0 rfl h170
  have hsv181:=s
  have hwv182:=d
  subst h180
  have s:=hsv181
  have d:=hwv182
  obtain ⟨_,_,rfl,rfl,rfl⟩:=h171
  have d:=d.addE h175
  refine sv s (o6 runUnderlying30 sizeOf71 rfl rfl h173.1 h173.2 h174) rfl fun a s=>?_
  refine sv s (G5 (j:=0) (d.ceAt 0 rfl) rfl isAgg71 sizeOf71 rfl rfl) rfl fun a s=>?_
  obtain ⟨rv184,h183,u⟩:=bt u
  refine x9 s ((d.bE 2 rfl).2 a4B.rfl' d.bdom ⟨_,_,rfl,rfl,rfl⟩ h183) (a5j (d.bE 2 rfl).1 rfl rfl) trivial rfl rfl ?_
  rintro v188 Sv185 w a h186 rfl s
  have d:=d.callB h186
  refine nl (cd s u rfl (fun u=>?_) fun u=>?_)
  ·refine sz0 2 s rfl fun a s=>?_
   obtain rfl:=oi u
   have h191:=hd144 _ rfl
   subst h191
   exact wp_ret (A8 (j6 (j6 (A8 (j6 (rt s rfl (d.ret rfl)))))))
  refine wp_skip (l8 (tn (wp_region_lit (rz0 2 s rfl fun a s=>?_))))
  exact ⟨_,io u,Sv122,wj s d [] [1,2]⟩
 obtain ⟨rv192,u,h193⟩:=a0x u
 have h193:=(hd144 _ h193.symm).symm
 subst h193
 refine wp_exit (j5 (j5 (o9 (tn (sz0 1 s rfl fun a s=>?_)))))
 obtain rfl:=oi u
 exact q1 s rfl (d.ret rfl)
theorem a2x {w0 S0 p2 k3 c4 g7 f8 cp9 s1} {del6:Span→Option Bool} {r} (u:K9 s1 del6=some r) (hS:Dm S0 w0) (hin:Ins S0 w0 [.row p2 s1.length k3 c4 71 2]) (h5:(l7 c4 s1).p S0 w0) (h10:(a5Q Tryz.prog g7 f8 cp9 del6).p S0 w0):Ck Tryz.prog 117 #[sl p2 k3 s1,.func (.func g7) f8.toArray cp9.toArray] w0 S0 (I8 [.row p2 s1.length k3 c4 71 2]) C9 r:=by
 refine enI 42 func117 rfl hS hin rfl rfl rfl fun a s d=>?_
 have d:=((d.addE h5).addE (e:=a1r s1.length s1) b1D).addE h10
 refine sz0 1 s rfl fun a s=>?_
 refine sn0 2 s rfl fun a s=>?_
 obtain ⟨rv12,h11,u⟩:=bt u
 refine cV s d (a2I h11 d.bdom (d.bRow 0 rfl 2 rfl) (d.bE 0 rfl)) (j3 call149 rfl) rfl fun a w s d=>?_
 refine rz0 1 s rfl fun a s=>?_
 refine wp_seq (sz0 2 s rfl fun a s=>?_)
 refine cd s u rfl (fun u=>?_) fun u=>?_
 ·refine sz0 2 s rfl fun a s=>?_
  obtain rfl:=oi u
  exact wp_ret (j6 (rt s rfl (d.ret ⟨p2,k3,c4,rfl,(d.outs [0] (by decide) rfl),(d.envAt 2 rfl)⟩)))
 refine sk (wp_seq (sn0 2 s rfl fun a s=>?_))
 obtain ⟨j21,h20,u⟩:=bt u
 refine sv s (o8 rfl h20) rfl fun a s=>?_
 refine nl ?_
 obtain ⟨e162,h284,u⟩:=bt u
 refine q8 (fun a w=>∃ c163 Sv164,Sl 42 [(0,sl p2 k3 e162.1),(5,iv e162.2)] a∧Wd ⟨w0,S0,I8 [.row p2 s1.length k3 c4 71 2]⟩ Sv164 [.row p2 e162.1.length k3 c163 71 2] [l7 c163 e162.1,a1r s1.length e162.1] w) ?_ ?_
 ·refine wp_block (u7 (fun sv22 a w=>∃ c113 Sv114,Sl 42 [(0,sl p2 k3 sv22.1),(1,.func (.func g7) f8.toArray cp9.toArray),(5,iv sv22.2.1),(6,iv sv22.2.2)] a∧Wd ⟨w0,S0,I8 [.row p2 s1.length k3 c4 71 2]⟩ Sv114 [.row p2 sv22.1.length k3 c113 71 2] [a5Q Tryz.prog g7 f8 cp9 del6,l7 c113 sv22.1,a1r s1.length sv22.1] w) (s1,rv12,j21) h284 ⟨c4,S0,wj s d [0] [0,2,1]⟩ ?_)
  clear h284
  repeat clear u
  rintro sv22 a w tv160 ⟨c113,Sv114,s,d⟩ u hd159
  refine wp_seq (sz0 4 s rfl fun a s=>?_)
  refine cd s u rfl (fun u=>?_) fun u=>?_
  ·refine sk (wp_seq (wp_block (sn0 2 s rfl fun a s=>?_)))
   obtain ⟨x210,h208,u⟩:=bt u
   obtain ⟨b217,q214,c215,h218,h211,h212,h216,h209⟩:=d.elemRV (α:=Span) 0 rfl 1 rfl h208
   have hsv219:=s
   have hwv220:=d
   subst h218
   have s:=hsv219
   have d:=hwv220
   obtain ⟨_,_,rfl,rfl,rfl⟩:=h209
   refine sv s (o6 runUnderlying30 sizeOf71 rfl rfl h211.1 h211.2 h212) rfl fun a s=>?_
   refine sv s (I1 (j:=0) (d.ownAt 0 rfl) rfl isAgg71 sizeOf71 h216 rfl rfl) rfl fun a s=>?_
   refine wa [iv 0,iv 0] s d zeroValue71 fun b221 a w s d=>?_
   refine ws (C71 x210) s d 0 rfl rfl rfl sizeOf71 fun a w s d=>?_
   refine nl (sn 2 [0] s d rfl rfl fun a s=>?_)
   obtain ⟨rv223,h222,u⟩:=bt u
   refine x9 s ((d.bE 0 rfl).2 a4B.rfl' d.bdom ⟨_,_,rfl,rfl,rfl⟩ h222) (a5j (d.bE 0 rfl).1 rfl rfl) trivial rfl rfl ?_
   rintro v227 Sv224 w a h225 rfl s
   have d:=d.callB h225
   refine rz0 1 s rfl fun a s=>?_
   refine q8 (fun a w=>∃ (sv247:(List Span)) (i248:Int) (c245 Sv246:_),J2 sv22 sv247 i248=some tv160∧Sl 42 [(0,sl (ad b217) k3 sv247),(1,.func (.func g7) f8.toArray cp9.toArray),(5,iv i248),(6,iv sv22.2.2)] a∧Wd ⟨w0,S0,I8 [.row (ad b217) s1.length k3 c4 71 2]⟩ Sv246 [.row (ad b217) sv247.length k3 c245 71 2] [a5Q Tryz.prog g7 f8 cp9 del6,l7 c245 sv247,a1r s1.length sv247] w) ?_ ?_
   ·refine cd s u rfl (fun u=>?_) fun u=>?_
    ·refine sn 3 [0] s d rfl rfl fun a s=>?_
     obtain ⟨x254,h252,u⟩:=bt u
     obtain ⟨q258,c259,h255,h256,h260,h253⟩:=d.elemRK (α:=Span) 1 rfl 1 rfl h252
     obtain ⟨_,_,rfl,rfl,rfl⟩:=h253
     refine sv s (o6 runUnderlying30 sizeOf71 rfl rfl h255.1 h255.2 h256) rfl fun a s=>?_
     obtain ⟨l262,h261,u⟩:=bt u
     have h265:=d.envAt 2 rfl
     refine a2M (α:=Span) s d 1 rfl 1 rfl h256 rfl rfl sizeOf71 rfl h261 ⟨_,_,rfl,rfl,rfl⟩ trivial ?_
     intro c263 a w s d
     have d:=d.addE (e:=a1r s1.length l262) (b3u (w:=w) (S:=S0) h265 h261)
     have h264:=Y0 h261
     try have s:=s.fl 0 rfl h264
     try have s:=s.fl 30 rfl h264
     refine nl (wp_region_lit (rn0 2 s rfl fun a s=>?_))
     obtain ⟨i267,h266,u⟩:=bt u
     refine sv s (o8 rfl h266) rfl fun a s=>?_
     exact nl ⟨l262,i267,c263,Sv114,u,wj s d [1] [2,1,0]⟩
    exact sk ⟨sv22.1,sv22.2.1,c113,Sv114,u,wj s d [1] [0,1,2]⟩
   rintro a w ⟨sv247,i248,c245,Sv246,u,s,d⟩
   refine l8 (tn (wp_region_lit (rn0 2 s rfl fun a s=>?_)))
   obtain ⟨j250,h249,u⟩:=bt u
   refine sv s (o8 rfl h249) rfl fun a s=>?_
   exact nl ⟨_,io u,c245,Sv246,wj s d [0] [0,1,2]⟩
  refine wp_exit (j5 (j5 (o9 ?_)))
  obtain rfl:=oi u
  have h268:=hd159 _ rfl
  subst h268
  exact tn ⟨c113,Sv114,wj s d [0] [1,2]⟩
 rintro a w ⟨c163,Sv164,s,d⟩
 refine tn (sn0 2 s rfl fun a s=>?_)
 obtain ⟨l273,h269,u⟩:=bt u
 obtain ⟨p271,k272,h270⟩:=a5h (α:=Span) d 0 rfl h269
 refine sv s (a4E runUnderlying30 sizeOf71 rfl ⟨_,rfl⟩ (by exact rfl) h270) rfl fun a s=>?_
 obtain ⟨l274,h275,u⟩:=bt u
 have h280:=d.envAt 1 rfl
 refine b3U (α:=Span) (z0:=((⟨0,0⟩:Span):Span)) s d 0 rfl 0 rfl a3o ⟨_,_,rfl,rfl,rfl⟩ h269 h270 rfl trivial ?_
 intro c276 a w s d
 rw [Option.some.inj h275] at d
 have d:=d.addE (e:=a1r s1.length l274) (by have q:=b1T (w:=w) (S:=S0) (S':=S0) (w':=w) (ys:=List.replicate l273.length ((⟨0,0⟩:Span):Span)) h280 h269;rw [Option.some.inj h275] at q;exact q)
 have h277:=(a5M h269 h275)
 try have s:=s.fl 0 rfl h277
 try have s:=s.fl 36 rfl h277
 refine nl (sn0 2 s rfl fun a s=>?_)
 obtain ⟨l283,h281,u⟩:=bt u
 obtain ⟨d,h282⟩:=w_cut d 0 rfl 1 rfl h281
 refine sv s (a4E runUnderlying30 sizeOf71 rfl (by exact rfl) ⟨_,rfl⟩ h282) rfl fun a s=>?_
 refine rz0 1 s rfl fun a s=>?_
 obtain rfl:=oi u
 exact q1 s rfl (d.ret ⟨p2,k3,(c276.take (l283.length * 2)),rfl,(d.outs [0] (by decide) rfl),(d.envAt 0 rfl)⟩)
theorem b3S {w0 S0 s1 r} (u:b3d s1=some r) (hS:Dm S0 w0):Ck Tryz.prog 120 #[V71 s1] w0 S0 [] u6 r:=by
 refine en 8 func120 rfl hS rfl rfl rfl fun a s d=>?_
 refine sr (wb (C71 s1) s d rfl fun b2 a w s d=>?_)
 refine rz0 1 s rfl fun a s=>?_
 refine sz 6 [0,0] s d rfl rfl fun a s=>?_
 obtain rfl:=oi u
 exact q1 s rfl (d.ret rfl)
theorem a9A {w0 S0 s1 r} (u:a3N s1=some r) (hS:Dm S0 w0):Ck Tryz.prog 119 #[V71 s1] w0 S0 [] u6 r:=by
 refine en 6 func119 rfl hS rfl rfl rfl fun a s d=>?_
 refine sr (wb (C71 s1) s d rfl fun b2 a w s d=>?_)
 refine rz0 1 s rfl fun a s=>?_
 refine sn 1 [0] s d rfl rfl fun a s=>?_
 obtain ⟨rv4,h3,u⟩:=bt u
 refine cV s d (b3S h3 d.bdom) (j3 call120 rfl) rfl fun a w s d=>?_
 refine rz0 2 s rfl fun a s=>?_
 obtain rfl:=oi u
 exact q1 s rfl (d.ret rfl)
theorem a9z (S0:Nat→Prop) (w0:World):(a5Q Tryz.prog 119 [] [] a3N).p S0 w0:=by
  refine ⟨call119,?_⟩
  rintro S1 w1 hk hS c0 x0 r1 ⟨_,_,rfl,rfl,rfl⟩ hf
  exact a9A hf hS
end Go.Proofs.YtdcafiefjakfeaaGreat.Wk
namespace Go.Proofs
open Go Go.Shelf Go.RowKit Go.Lib Go.Sort
def Tryz.sort121_ren:Go.Shelf.Ren:=⟨fun | 6=>121 | 15=>130 | 14=>150 | 28=>167 | 29=>168 | 20=>177 | 21=>178 | 22=>179 | 23=>180 | 24=>181 | 25=>182 | 26=>183 | 27=>184 | 46=>199 | 47=>195 | 48=>196 | 49=>200 | 50=>201 | 57=>207 | n=>n,fun | 22=>30 | 24=>71 | 25=>141 | 3=>3 | 39=>146 | 0=>0 | 53=>172 | 55=>174 | 4=>4 | 46=>166 | 45=>165 | 50=>44 | 5=>5 | 9=>9 | 66=>191 | 70=>195 | 76=>202 | 77=>203 | n=>n,fun | n=>n⟩
theorem Tryz.sort121:Go.Proofs.SlLaysF0.n6 Tryz.prog Tryz.sort121_ren where
  mixed:=by kernel_rfl
  f6:=⟨Tryz.f121.name,by decide,Tryz.func121.trans (congrArg some (by kernel_rfl))⟩
  f14:=⟨Tryz.f150.name,by decide,Tryz.func150.trans (congrArg some (by kernel_rfl))⟩
  f15:=Tryz.func130.trans (congrArg some (by kernel_rfl))
  f20:=⟨Tryz.f177.name,by decide,Tryz.func177.trans (congrArg some (by kernel_rfl))⟩
  f21:=⟨Tryz.f178.name,by decide,Tryz.func178.trans (congrArg some (by kernel_rfl))⟩
  f22:=⟨Tryz.f179.name,by decide,Tryz.func179.trans (congrArg some (by kernel_rfl))⟩
  f23:=⟨Tryz.f180.name,by decide,Tryz.func180.trans (congrArg some (by kernel_rfl))⟩
  f24:=⟨Tryz.f181.name,by decide,Tryz.func181.trans (congrArg some (by kernel_rfl))⟩
  f25:=⟨Tryz.f182.name,by decide,Tryz.func182.trans (congrArg some (by kernel_rfl))⟩
  f26:=⟨Tryz.f183.name,by decide,Tryz.func183.trans (congrArg some (by kernel_rfl))⟩
  f27:=⟨Tryz.f184.name,by decide,Tryz.func184.trans (congrArg some (by kernel_rfl))⟩
  f28:=Tryz.func167.trans (congrArg some (by kernel_rfl))
  f29:=Tryz.func168.trans (congrArg some (by kernel_rfl))
  f46:=⟨Tryz.f199.name,by decide,Tryz.func199.trans (congrArg some (by kernel_rfl))⟩
  f47:=Tryz.func195.trans (congrArg some (by kernel_rfl))
  f48:=Tryz.func196.trans (congrArg some (by kernel_rfl))
  f49:=⟨Tryz.f200.name,by decide,Tryz.func200.trans (congrArg some (by kernel_rfl))⟩
  f50:=⟨Tryz.f201.name,by decide,Tryz.func201.trans (congrArg some (by kernel_rfl))⟩
  f57:=⟨Tryz.f207.name,by decide,Tryz.func207.trans (congrArg some (by kernel_rfl))⟩
  t0:=Tryz.underlying0
  a0:=Tryz.isAgg0
  z0:=Tryz.sizeOf0
  v0:=Tryz.zeroValue0
  t3:=Tryz.underlying3
  a3:=Tryz.isAgg3
  z3:=Tryz.sizeOf3
  v3:=Tryz.zeroValue3
  t4:=Tryz.underlying4
  a4:=Tryz.isAgg4
  z4:=Tryz.sizeOf4
  v4:=Tryz.zeroValue4
  t5:=Tryz.underlying5
  a5:=Tryz.isAgg5
  z5:=Tryz.sizeOf5
  v5:=Tryz.zeroValue5
  t9:=Tryz.underlying9
  a9:=Tryz.isAgg9
  z9:=Tryz.sizeOf9
  v9:=Tryz.zeroValue9
  t22:=Tryz.underlying30
  a22:=Tryz.isAgg30
  z22:=Tryz.sizeOf30
  v22:=Tryz.zeroValue30
  t25:=Tryz.underlying141
  a25:=Tryz.isAgg141
  z25:=Tryz.sizeOf141
  v25:=Tryz.zeroValue141
  t39:=Tryz.underlying146
  a39:=Tryz.isAgg146
  z39:=Tryz.sizeOf146
  v39:=Tryz.zeroValue146
  t45:=Tryz.underlying165
  a45:=Tryz.isAgg165
  z45:=Tryz.sizeOf165
  v45:=Tryz.zeroValue165
  t46:=Tryz.underlying166
  a46:=Tryz.isAgg166
  z46:=Tryz.sizeOf166
  v46:=Tryz.zeroValue166
  t50:=Tryz.underlying44
  a50:=Tryz.isAgg44
  z50:=Tryz.sizeOf44
  v50:=Tryz.zeroValue44
  t53:=Tryz.underlying172
  a53:=Tryz.isAgg172
  z53:=Tryz.sizeOf172
  v53:=Tryz.zeroValue172
  t55:=Tryz.underlying174
  a55:=Tryz.isAgg174
  z55:=Tryz.sizeOf174
  v55:=Tryz.zeroValue174
  t66:=Tryz.underlying191
  a66:=Tryz.isAgg191
  z66:=Tryz.sizeOf191
  v66:=Tryz.zeroValue191
  t70:=Tryz.underlying195
  a70:=Tryz.isAgg195
  z70:=Tryz.sizeOf195
  v70:=Tryz.zeroValue195
  t76:=Tryz.underlying202
  a76:=Tryz.isAgg202
  z76:=Tryz.sizeOf202
  v76:=Tryz.zeroValue202
  t77:=Tryz.underlying203
  a77:=Tryz.isAgg203
  z77:=Tryz.sizeOf203
  v77:=Tryz.zeroValue203
end Go.Proofs
namespace Go.Proofs.YtdcafiefjakfeaaGreat.Wk
open Go Go.RowKit Go.Proofs Go.Proofs.YtdcafiefjakfeaaGreat.Sh Go.Proofs.Tryz
set_option linter.unusedVariables false
set_option linter.unusedSimpArgs false
abbrev a3k (w0:World) (X:List Nat) (p2:Option Addr) (k3:Nat) (x1:(List Span)) (r:(List Span)):(Nat→Prop)→World→Value→Prop:=fun S w v=>∃ ck_0,v=.tuple #[]∧Outs X w0 S w [.row p2 r.length k3 ck_0 71 2]∧(l7 ck_0 r).p S w∧(a1r x1.length r).p S w
theorem a3j {w0 S0 p2 k3 c4 g7 cp9 x1} {cmp6:Span→Span→Option Int} {r} (u:Q5 x1 cmp6=some r) (hS:Dm S0 w0) (hin:Ins S0 w0 [.row p2 x1.length k3 c4 71 2]) (h5:(l7 c4 x1).p S0 w0) (h10:(a9G Tryz.prog g7 [] cp9 cmp6).p S0 w0):Calls Tryz.prog 121 #[sl p2 k3 x1,.func (.func g7) #[] cp9.toArray] w0 (Ret (I8 [.row p2 x1.length k3 c4 71 2]) w0 S0 (a3k w0 (I8 [.row p2 x1.length k3 c4 71 2]) p2 k3 x1 r)):=by
 exact b6y (α:=Span) (T:=71) Tryz.sort121 isAgg71 sizeOf71 (fun _=>rfl) (by decide) (fun d=>(C71 d)) (by rintro S w cs d ⟨_,_,rfl,rfl,rfl⟩;rfl) u hS hin h5 h10
theorem a6W {w0 S0 x1 r} (u:cmp_isNaN_int x1=some r) (hS:Dm S0 w0):Ck Tryz.prog 151 #[iv x1] w0 S0 [] u6 r:=by
 refine en 6 func151 rfl hS rfl rfl rfl fun a s d=>?_
 refine sz0 1 s rfl fun a s=>?_
 refine sz0 4 s rfl fun a s=>?_
 obtain rfl:=oi u
 exact q1 s rfl (d.ret rfl)
theorem F6 {w0 S0 x1 y2 r} (u:cmp_Compare_int x1 y2=some r) (hS:Dm S0 w0):Ck Tryz.prog 123 #[iv x1,iv y2] w0 S0 [] j4 r:=by
 refine en 20 func123 rfl hS rfl rfl rfl fun a s d=>?_
 refine sz0 1 s rfl fun a s=>?_
 refine sn0 1 s rfl fun a s=>?_
 obtain ⟨rv4,h3,u⟩:=bt u
 refine cV s d (a6W h3 d.bdom) (j3 call151 rfl) rfl fun a w s d=>?_
 refine rz0 1 s rfl fun a s=>?_
 refine sn0 1 s rfl fun a s=>?_
 obtain ⟨rv11,h10,u⟩:=bt u
 refine cV s d (a6W h10 d.bdom) (j3 call151 rfl) rfl fun a w s d=>?_
 refine rz0 1 s rfl fun a s=>?_
 refine wp_seq (sz0 1 s rfl fun a s=>?_)
 refine cd s u rfl (fun u=>?_) fun u=>?_
 ·refine wp_seq (sz0 1 s rfl fun a s=>?_)
  refine cd s u rfl (fun u=>?_) fun u=>?_
  ·refine sz0 1 s rfl fun a s=>?_
   obtain rfl:=oi u
   exact wp_ret (j6 (j6 (rt s rfl (d.ret rfl))))
  refine sk (sz0 1 s rfl fun a s=>?_)
  obtain rfl:=oi u
  exact wp_ret (j6 (rt s rfl (d.ret rfl)))
 refine sk (wp_seq (sz0 1 s rfl fun a s=>?_))
 refine cd s u rfl (fun u=>?_) fun u=>?_
 ·refine sz0 1 s rfl fun a s=>?_
  obtain rfl:=oi u
  exact wp_ret (j6 (rt s rfl (d.ret rfl)))
 refine sk (wp_seq (sz0 3 s rfl fun a s=>?_))
 refine cd s u rfl (fun u=>?_) fun u=>?_
 ·refine sz0 1 s rfl fun a s=>?_
  obtain rfl:=oi u
  exact wp_ret (j6 (rt s rfl (d.ret rfl)))
 refine sk (wp_seq (sz0 3 s rfl fun a s=>?_))
 refine cd s u rfl (fun u=>?_) fun u=>?_
 ·refine sz0 1 s rfl fun a s=>?_
  obtain rfl:=oi u
  exact wp_ret (j6 (rt s rfl (d.ret rfl)))
 refine sk (sz0 1 s rfl fun a s=>?_)
 obtain rfl:=oi u
 exact q1 s rfl (d.ret rfl)
theorem a9C {w0 S0 a1 b2 r} (u:a2a a1 b2=some r) (hS:Dm S0 w0):Ck Tryz.prog 122 #[V71 a1,V71 b2] w0 S0 [] j4 r:=by
 refine en 10 func122 rfl hS rfl rfl rfl fun a s d=>?_
 refine sr (wb (C71 a1) s d rfl fun b3 a w s d=>?_)
 refine wb (C71 b2) s d rfl fun b4 a w s d=>?_
 refine rz0 1 s rfl fun a s=>?_
 refine sn 4 [1,0] s d rfl rfl fun a s=>?_
 obtain ⟨rv6,h5,u⟩:=bt u
 refine cV s d (F6 h5 d.bdom) (j3 call123 rfl) rfl fun a w s d=>?_
 refine rz0 1 s rfl fun a s=>?_
 obtain rfl:=oi u
 exact q1 s rfl (d.ret rfl)
theorem a9B (S0:Nat→Prop) (w0:World):(a9G Tryz.prog 122 [] [] a2a).p S0 w0:=by
  refine ⟨call122,?_⟩
  rintro S1 w1 hk hS c0 c1 x0 x1 r1 ⟨_,_,rfl,rfl,rfl⟩ h1 hf
  obtain ⟨_,_,rfl,rfl,rfl⟩:=h1
  exact a9C hf hS
theorem a4z {w0 S0 p2 k3 l1 r} (u:a2K l1=some r) (hS:Dm S0 w0) (h4:(Sq p2 k3 l1).p S0 w0):Ck Tryz.prog 88 #[sl p2 k3 l1] w0 S0 [] C9 r:=by
 refine en 54 func88 rfl hS rfl rfl rfl fun a s d=>?_
 have d:=d.addE h4
 refine sz0 1 s rfl fun a s=>?_
 refine sn0 1 s rfl fun a s=>?_
 obtain ⟨rv6,h5,u⟩:=bt u
 refine cR s (a3T h5 d.dom (d.envAt 0 rfl)) (j3 call118 rfl) rfl ?_
 rintro v14 Sv11 w a h12 ⟨p7,k8,c10,rfl,h15,h9⟩ s
 have d:=(d.callN h12 h15).addE (e:=l7 c10 rv6) h9
 obtain ⟨rv17,h16,u⟩:=bt u
 refine cR s (a2x h16 d.dom (d.ins [0] (by decide) rfl) (d.envAt 0 rfl) (a9z _ _)) (j3 call117 rfl) rfl ?_
 rintro v25 Sv22 w a h23 ⟨p18,k19,c21,rfl,h26,h20⟩ s
 have d:=(d.callO [0] [] (by decide) rfl h23 h26).addE (e:=l7 c21 rv17) h20
 refine rz0 1 s rfl fun a s=>?_
 refine sn0 1 s rfl fun a s=>?_
 obtain ⟨rv28,h27,u⟩:=bt u
 refine cR s (a3j h27 d.dom (d.ins [0] (by decide) rfl) (d.envAt 0 rfl) (a9B _ _)) (j3 call121 rfl) rfl ?_
 rintro v35 Sv32 w a h33 ⟨c29,rfl,h36,h30,h31⟩ s
 have d:=(d.callO [0] [] (by decide) rfl h33 h36).addE (e:=l7 c29 rv28) h30
 have h37:=h31
 have h38:=Eq.symm h37
 try have s:=s.fl 3 rfl h38
 try have s:=s.fl 11 rfl h38
 refine nl (sz0 1 s rfl fun a s=>?_)
 refine wp_seq (sz0 3 s rfl fun a s=>?_)
 obtain ⟨e261,h462,u⟩:=bt u
 refine q8 (fun a w=>∃ c262 p263 k264 Sv265,Sl 54 [(4,sl p263 k264 e261)] a∧Wd ⟨w0,S0,[]⟩ Sv265 [.row p263 e261.length k264 c262 71 2] [l7 c262 e261] w) ?_ ?_
 ·refine wp_block ?_
  have d:=d.nilRow Span 71
  refine u7 (fun sv39 a w=>∃ c182 p183 k184 Sv185,Sl 54 [(4,sl p183 k184 sv39.1),(13,sl p18 k19 rv28),(14,iv (rv28.length:Int)),(15,iv sv39.2)] a∧Wd ⟨w0,S0,[]⟩ Sv185 [.row p183 sv39.1.length k184 c182 71 2,.row p18 rv28.length k19 c29 71 2] [l7 c182 sv39.1,l7 c29 rv28] w) (([]:List Span),0) h462 ⟨[],none,0,Sv32,wj s d [0,1] [0,1]⟩ ?_
  clear h462
  repeat clear u
  rintro sv39 a w tv259 ⟨c182,p183,k184,Sv185,s,d⟩ u hd258
  refine sz0 1 s rfl fun a s=>?_
  refine wp_seq (cd s u rfl (fun u=>?_) fun u=>?_)
  ·refine sk (wp_seq (wp_block (sr ?_)))
   obtain ⟨x341,h339,u⟩:=bt u
   obtain ⟨b348,q345,c346,h349,h342,h343,h347,h340⟩:=d.elemRV (α:=Span) 1 rfl 1 rfl h339
   have hsv350:=s
   have hwv351:=d
   subst h349
   have s:=hsv350
   have d:=hwv351
   obtain ⟨_,_,rfl,rfl,rfl⟩:=h340
   refine sv s (o6 runUnderlying30 sizeOf71 rfl rfl h342.1 h342.2 h343) rfl fun a s=>?_
   refine sv s (I1 (j:=0) (d.ownAt 1 rfl) rfl isAgg71 sizeOf71 h347 rfl rfl) rfl fun a s=>?_
   refine wa [iv 0,iv 0] s d zeroValue71 fun b352 a w s d=>?_
   refine ws (C71 x341) s d 0 rfl rfl rfl sizeOf71 fun a w s d=>?_
   refine nl (sn0 2 s rfl fun a s=>?_)
   obtain ⟨n354,h353,u⟩:=bt u
   refine sv s (o8 rfl h353) rfl fun a s=>?_
   refine nl (wp_seq ?_)
   obtain ⟨c368,hc368,u⟩:=bt u
   refine A9 (fun a w=>∃ Sv369,Sl 54 [(4,sl p183 k184 sv39.1),(6,pt b352),(7,iv n354),(13,sl (ad b348) k19 rv28),(14,iv (rv28.length:Int)),(15,iv sv39.2),(33,.bool c368)] a∧Wd ⟨w0,S0,[]⟩ Sv369 [.box b352 (C71 x341) 71,.row p183 sv39.1.length k184 c182 71 2,.row (ad b348) rv28.length k19 c29 71 2] [l7 c182 sv39.1,l7 c29 rv28] w) ?_ ?_
   ·rcases Bool.eq_false_or_eq_true (decide (0<n354)) with h370 | h370
    ·have h371:=E9 hc368 h370
     obtain ⟨x374,h372,h371⟩:=H5 h371
     obtain ⟨b381,q378,c379,h382,h375,h376,h380,h373⟩:=d.elemRV (α:=Span) 1 rfl 0 rfl h372
     have hsv383:=s
     have hwv384:=d
     subst h382
     have s:=hsv383
     have d:=hwv384
     obtain ⟨_,_,rfl,rfl,rfl⟩:=h373
     refine h_c [0,1,2] [] d rfl rfl (by kernel_rfl) rfl fun hC d=>?_
     refine gn 3 [0,1,2] [] s hC rfl rfl rfl fun a s=>?_
     have s:=s.bT 23 rfl h370
     refine gn 5 [3,4,5,6,7] [0] s hC rfl rfl rfl fun a s=>?_
     refine gx s 8 rfl ⟨_,rfl,rfl⟩ rfl hC runUnderlying30 sizeOf71 rfl rfl h375 h376 fun a s=>?_
     refine gt s 9 rfl ⟨_,rfl,rfl⟩ rfl hC (fun w hC=>l5 (o':=q378+1) runUnderlying71 rfl sizeOf3 rfl rfl rfl) fun a s=>?_
     refine gt s 10 rfl ⟨_,rfl,rfl⟩ rfl hC (fun w hC=>A7 (j:=1) (hC.ownAt 1 rfl) rfl isAgg3 h380 rfl) fun a s=>?_
     refine gt s 11 rfl ⟨_,rfl,rfl⟩ rfl hC (fun w hC=>b1j rfl rfl) fun a s=>?_
     refine gT s 12 rfl rfl hC rfl rfl h371 fun a s=>?_
     refine y7 (by kernel_rfl) ?_
     exact ⟨Sv185,wj s d [0,1,2] [0,1]⟩
    have h385:=F7 hc368 h370
    refine h_c [0,1,2] [] d rfl rfl (by kernel_rfl) rfl fun hC d=>?_
    refine gn 3 [0,1,2] [] s hC rfl rfl rfl fun a s=>?_
    have s:=s.bF 23 rfl h370
    refine gn 9 [3,4,5,6,7,8,9,10,11] [] s hC rfl rfl rfl fun a s=>?_
    refine gF s 12 rfl rfl hC rfl rfl h385 fun a s=>?_
    refine y7 (by kernel_rfl) ?_
    exact ⟨Sv185,wj s d [0,1,2] [0,1]⟩
   rintro a w ⟨Sv369,s,d⟩
   refine tn (q8 (fun a w=>∃ (out425:(List Span)) (c421 p422 k423 Sv424:_),a4y sv39 out425=some tv259∧Sl 54 [(4,sl p422 k423 out425),(13,sl (ad b348) k19 rv28),(14,iv (rv28.length:Int)),(15,iv sv39.2)] a∧Wd ⟨w0,S0,[]⟩ Sv424 [.row p422 out425.length k423 c421 71 2,.row (ad b348) rv28.length k19 c29 71 2] [l7 c421 out425,l7 c29 rv28] w) ?_ ?_)
   ·refine cd s u rfl (fun u=>?_) fun u=>?_
    ·obtain ⟨x429,h427,u⟩:=bt u
     obtain ⟨b436,q433,c434,h437,h430,h431,h435,h428⟩:=d.elemRV (α:=Span) 1 rfl 0 rfl h427
     have hsv438:=s
     have hwv439:=d
     subst h437
     have s:=hsv438
     have d:=hwv439
     obtain ⟨_,_,rfl,rfl,rfl⟩:=h428
     obtain ⟨x442,h440,u⟩:=bt u
     obtain ⟨q446,c447,h443,h444,h448,h441⟩:=d.elemRK (α:=Span) 1 rfl 0 rfl h440
     obtain ⟨_,_,rfl,rfl,rfl⟩:=h441
     obtain ⟨l450,h449,u⟩:=bt u
     refine A9 (fun a w=>∃ Sv453 c451,Sl 54 [(4,sl (ad b436) k184 l450),(13,sl (ad b348) k19 rv28),(14,iv (rv28.length:Int)),(15,iv sv39.2)] a∧Wd ⟨w0,S0,[]⟩ Sv453 [.row (ad b436) l450.length k184 c451 71 2,.row (ad b348) rv28.length k19 c29 71 2] [l7 c451 l450,l7 c29 rv28] w) ?_ ?_
     ·refine h_c [0,2] [] d rfl rfl (by kernel_rfl) rfl fun hC d=>?_
      refine gn 6 [0,1,2,3,4,5] [] s hC rfl rfl rfl fun a s=>?_
      refine gx s 6 rfl trivial rfl hC runUnderlying30 sizeOf71 rfl rfl h430 h431 fun a s=>?_
      refine gn 3 [7,9,10] [0] s hC rfl rfl rfl fun a s=>?_
      refine ho 8 rfl ?_
      refine sv s (A7 (j:=1) (d.ownAt 1 rfl) rfl isAgg3 h435 rfl) rfl fun a s=>?_
      refine h_n [0,2] [] d rfl rfl fun hC=>?_
      refine gv s 11 rfl rfl hC (fun w hC=>y_max rfl rfl) fun a s=>?_
      refine gx s 12 rfl trivial rfl hC runUnderlying30 sizeOf71 rfl rfl h443 h444 fun a s=>?_
      refine gv s 13 rfl rfl hC (fun w hC=>l5 (o':=q446+1) runUnderlying71 rfl sizeOf3 rfl rfl rfl) fun a s=>?_
      refine ho 14 rfl ?_
      refine a7s (α:=Span) (f:=1) (m:=1) s d 1 rfl 0 rfl h444 rfl rfl sizeOf3 rfl rfl rfl h449 (fun es he=>by rw [h448] at he;subst he;exact ⟨_,_,rfl,rfl,rfl⟩) trivial ?_
      intro c451 a w s d
      have h452:=Y0 h449
      try have s:=s.fl 4 rfl h452
      try have s:=s.fl 34 rfl h452
      try have s:=s.fl 37 rfl h452
      refine h_n [0,2] [] d rfl rfl fun hC=>?_
      refine y7 (by kernel_rfl) ?_
      exact ⟨Sv369,c451,wj s d [1,2] [0,2]⟩
     rintro a w ⟨Sv453,c451,s,d⟩
     exact tn ⟨l450,c451,(ad b436),k184,Sv453,u,wj s d [0,1] [0,1]⟩
    refine wp_region_lit (rn 2 [0] s d rfl rfl fun a s=>?_)
    refine o7 (α:=Span) (vs:=[V71 x341]) (cs:=(C71 x341)) (xs:=([x341]:List Span)) s d a3o rfl rfl rfl rfl rfl rfl ⟨⟨_,_,rfl,rfl,rfl⟩,rfl⟩ rfl trivial rfl fun b455 a w s d=>?_
    obtain ⟨l457,h456,u⟩:=bt u
    refine F4 (α:=Span) s d a3o 2 rfl rfl rfl 1 rfl 0 rfl 0 rfl h456 rfl trivial ?_
    intro p458 k459 c460 a w s d
    refine rz0 1 s rfl fun a s=>?_
    exact ⟨l457,c460,p458,k459,Sv369,u,wj s d [2,3] [0,3]⟩
   rintro a w ⟨out425,c421,p422,k423,Sv424,u,s,d⟩
   refine l8 (tn (wp_region_lit (rz0 2 s rfl fun a s=>?_)))
   exact ⟨_,io u,c421,p422,k423,Sv424,wj s d [0,1] [0,1]⟩
  refine wp_exit (j5 (j5 (o9 ?_)))
  obtain rfl:=oi u
  have h461:=hd258 _ rfl
  subst h461
  exact tn ⟨c182,p183,k184,Sv185,wj s d [0] [0]⟩
 rintro a w ⟨c262,p263,k264,Sv265,s,d⟩
 refine tn (sz0 2 s rfl fun a s=>?_)
 obtain rfl:=oi u
 exact q1 s rfl (d.ret ⟨p263,k264,c262,rfl,(d.outs [0] (by decide) rfl),(d.envAt 0 rfl)⟩)
abbrev a1x (w0:World) (X:List Nat) (r:((List Span) × Int)):Rd:=fun S w v=>∃ p0_0 k0_0 c0_0,v=.tuple #[sl p0_0 k0_0 r.1,iv r.2]∧Outs X w0 S w [.row p0_0 r.1.length k0_0 c0_0 71 2]∧(l7 c0_0 r.1).p S w
theorem a9q {w0 S0 p2 k3 l1 r} (u:a3C l1=some r) (hS:Dm S0 w0) (h4:(Sq p2 k3 l1).p S0 w0):Ck Tryz.prog 49 #[sl p2 k3 l1] w0 S0 [] a1x r:=by
 refine en 24 func49 rfl hS rfl rfl rfl fun a s d=>?_
 have d:=d.addE h4
 refine sz0 2 s rfl fun a s=>?_
 refine wp_seq (sn0 1 s rfl fun a s=>?_)
 obtain ⟨rv6,h5,u⟩:=bt u
 refine cV s d (a2O h5 d.bdom (d.bE 0 rfl)) (j3 call86 rfl) rfl fun a w s d=>?_
 refine rz0 1 s rfl fun a s=>?_
 refine cd s u rfl (fun u=>?_) fun u=>?_
 ·refine sz0 2 s rfl fun a s=>?_
  obtain rfl:=oi u
  have d:=d.nilRow Span 71
  exact wp_ret (j6 (Q8 s rfl (q9 rfl) (q9 rfl) (d.ret ⟨none,0,[],rfl,(d.outs [0] (by decide) rfl),(d.envAt 0 rfl)⟩)))
 refine sk (sz0 1 s rfl fun a s=>?_)
 refine wp_seq (sz0 3 s rfl fun a s=>?_)
 obtain ⟨e125,h209,u⟩:=bt u
 refine q8 (fun a w=>∃ c126 p127 k128 Sv129,Sl 24 [(4,sl p127 k128 e125)] a∧Wd ⟨w0,S0,[]⟩ Sv129 [.row p127 e125.length k128 c126 71 2] [l7 c126 e125] w) ?_ ?_
 ·refine wp_block ?_
  have d:=d.nilRow Span 71
  refine u7 (fun sv14 a w=>∃ c85 p86 k87 Sv88,Sl 24 [(4,sl p86 k87 sv14.1),(10,sl p2 k3 l1),(11,iv (l1.length:Int)),(12,iv sv14.2)] a∧Wd ⟨w0,S0,[]⟩ Sv88 [.row p86 sv14.1.length k87 c85 71 2] [Sq p2 k3 l1,l7 c85 sv14.1] w) (([]:List Span),0) h209 ⟨[],none,0,S0,wj s d [0] [1,0]⟩ ?_
  clear h209
  repeat clear u
  rintro sv14 a w tv123 ⟨c85,p86,k87,Sv88,s,d⟩ u hd122
  refine sz0 1 s rfl fun a s=>?_
  refine wp_seq (cd s u rfl (fun u=>?_) fun u=>?_)
  ·refine sk (wp_seq (wp_block (sr ?_)))
   obtain ⟨x166,h164,u⟩:=bt u
   obtain ⟨b172,o173,q170,c171,h174,h167,h168,h169,h165⟩:=d.elemV 0 rfl h164
   have hsv175:=s
   have hwv176:=d
   subst h174
   have s:=hsv175
   have d:=hwv176
   obtain ⟨_,_,_,_,_,_,_,_,_,_,_,_,rfl,rfl,rfl,rfl,rfl,rfl,rfl,rfl,rfl,rfl,rfl,rfl,⟨p177,n178,k179,rfl,h180⟩⟩:=h165
   obtain rfl:=h180.1
   have d:=(d.addE (e:=SlA p177 _ k179 x166.Samples) h180).addE h169
   refine sv s (o6 runUnderlying28 sizeOf56 rfl rfl h167.1 h167.2 h168) rfl fun a s=>?_
   refine sv s (G5 (j:=0) (d.ceAt 0 rfl) rfl isAgg56 sizeOf56 rfl rfl) rfl fun a s=>?_
   refine wa Z0 s d zeroValue56 fun b181 a w s d=>?_
   refine ws (C56 x166 p177 k179) s d 0 rfl rfl rfl sizeOf56 fun a w s d=>?_
   refine nl (wp_region_lit (rn 2 [0] s d rfl rfl fun a s=>?_))
   obtain ⟨rv183,h182,u⟩:=bt u
   refine cV s d (a6u h182 d.bdom (d.bE 1 rfl)) (j3 call87 rfl) rfl fun a w s d=>?_
   refine o7 (α:=Span) (vs:=[V71 rv183]) (cs:=(C71 rv183)) (xs:=([rv183]:List Span)) s d a3o rfl rfl rfl rfl rfl rfl ⟨⟨_,_,rfl,rfl,rfl⟩,rfl⟩ rfl trivial rfl fun b190 a w s d=>?_
   obtain ⟨l192,h191,u⟩:=bt u
   refine F4 (α:=Span) s d a3o 2 rfl rfl rfl 4 rfl 0 rfl 0 rfl h191 rfl trivial ?_
   intro p193 k194 c195 a w s d
   refine av s rfl rfl fun a s=>?_
   refine wpList_nil ?_
   refine l8 (tn (wp_region_lit (rz0 2 s rfl fun a s=>?_)))
   exact ⟨_,io u,c195,p193,k194,Sv88,wj s d [2] [4,0]⟩
  refine wp_exit (j5 (j5 (o9 ?_)))
  obtain rfl:=oi u
  have h196:=hd122 _ rfl
  subst h196
  exact tn ⟨c85,p86,k87,Sv88,wj s d [0] [1]⟩
 rintro a w ⟨c126,p127,k128,Sv129,s,d⟩
 refine tn (sn0 1 s rfl fun a s=>?_)
 obtain ⟨rv198,h197,u⟩:=bt u
 obtain ⟨Sv203,d⟩:=D6 (α:=Span) d 0 rfl 0 rfl
 refine cR s (a4z h197 d.dom (d.envAt 0 rfl)) (j3 call88 rfl) rfl ?_
 rintro v207 Sv204 w a h205 ⟨p199,k200,c202,rfl,h208,h201⟩ s
 have d:=(d.callN h205 h208).addE (e:=l7 c202 rv198) h201
 refine rz0 2 s rfl fun a s=>?_
 obtain rfl:=oi u
 exact wp_ret (Q8 s rfl (q9 rfl) (q9 rfl) (d.ret ⟨p199,k200,c202,rfl,(d.outs [0] (by decide) rfl),(d.envAt 0 rfl)⟩))
theorem b2O {w0 S0 p2 k3 p6 k7 a1 b5 r} (u:a7U a1 b5=some r) (hS:Dm S0 w0) (h4:(Sq p2 k3 a1).p S0 w0) (h8:(Sq p6 k7 b5).p S0 w0):Ck Tryz.prog 50 #[sl p2 k3 a1,sl p6 k7 b5] w0 S0 [] C9 r:=by
 refine en 68 func50 rfl hS rfl rfl rfl fun a s d=>?_
 have d:=(d.addE h4).addE h8
 refine sz0 1 s rfl fun a s=>?_
 refine sn0 1 s rfl fun a s=>?_
 obtain ⟨rv10,h9,u⟩:=bt u
 refine cR s (a4z h9 d.dom (d.envAt 0 rfl)) (j3 call88 rfl) rfl ?_
 rintro v18 Sv15 w a h16 ⟨p11,k12,c14,rfl,h19,h13⟩ s
 have d:=(d.callN h16 h19).addE (e:=l7 c14 rv10) h13
 refine rz0 1 s rfl fun a s=>?_
 refine sz0 1 s rfl fun a s=>?_
 refine wp_seq (sn0 1 s rfl fun a s=>?_)
 obtain ⟨rv21,h20,u⟩:=bt u
 refine cR s (a4z h20 d.dom (d.envAt 2 rfl)) (j3 call88 rfl) rfl ?_
 rintro v29 Sv26 w a h27 ⟨p22,k23,c25,rfl,h30,h24⟩ s
 have d:=(d.callN h27 h30).addE (e:=l7 c25 rv21) h24
 refine rz0 2 s rfl fun a s=>?_
 obtain ⟨e520,h933,u⟩:=bt u
 refine q8 (fun a w=>∃ c521 p522 k523 Sv524,Sl 68 [(5,sl p522 k523 e520)] a∧Wd ⟨w0,S0,[]⟩ Sv524 [.row p522 e520.length k523 c521 71 2] [l7 c521 e520] w) ?_ ?_
 ·refine wp_block ?_
  have d:=d.nilRow Span 71
  refine u7 (fun sv31 a w=>∃ c354 p355 k356 Sv357,Sl 68 [(1,sl p11 k12 rv10),(5,sl p355 k356 sv31.1),(14,sl p22 k23 rv21),(15,iv (rv21.length:Int)),(16,iv sv31.2)] a∧Wd ⟨w0,S0,[]⟩ Sv357 [.row p11 rv10.length k12 c14 71 2,.row p355 sv31.1.length k356 c354 71 2,.row p22 rv21.length k23 c25 71 2] [l7 c14 rv10,l7 c354 sv31.1,l7 c25 rv21] w) (([]:List Span),0) h933 ⟨[],none,0,Sv26,wj s d [2,0,1] [2,0,1]⟩ ?_
  clear h933
  repeat clear u
  rintro sv31 a w tv518 ⟨c354,p355,k356,Sv357,s,d⟩ u hd517
  refine sz0 1 s rfl fun a s=>?_
  refine wp_seq (cd s u rfl (fun u=>?_) fun u=>?_)
  ·refine sk (wp_seq (wp_block (sr ?_)))
   obtain ⟨x687,h685,u⟩:=bt u
   obtain ⟨b694,q691,c692,h695,h688,h689,h693,h686⟩:=d.elemRV (α:=Span) 2 rfl 2 rfl h685
   have hsv696:=s
   have hwv697:=d
   subst h695
   have s:=hsv696
   have d:=hwv697
   obtain ⟨_,_,rfl,rfl,rfl⟩:=h686
   refine sv s (o6 runUnderlying30 sizeOf71 rfl rfl h688.1 h688.2 h689) rfl fun a s=>?_
   refine sv s (I1 (j:=0) (d.ownAt 2 rfl) rfl isAgg71 sizeOf71 h693 rfl rfl) rfl fun a s=>?_
   refine wa [iv 0,iv 0] s d zeroValue71 fun b698 a w s d=>?_
   refine ws (C71 x687) s d 0 rfl rfl rfl sizeOf71 fun a w s d=>?_
   refine nl (sz 3 [0] s d rfl rfl fun a s=>?_)
   refine wp_seq (sz0 3 s rfl fun a s=>?_)
   obtain ⟨e825,h931,u⟩:=bt u
   refine q8 (fun a w=>∃ c826 p827 k828 Sv829,Sl 68 [(1,sl p11 k12 rv10),(5,sl p827 k828 e825.1),(7,pt b698),(8,iv e825.2),(14,sl (ad b694) k23 rv21),(15,iv (rv21.length:Int)),(16,iv sv31.2)] a∧Wd ⟨w0,S0,[]⟩ Sv829 [.box b698 (C71 x687) 71,.row p11 rv10.length k12 c14 71 2,.row p827 e825.1.length k828 c826 71 2,.row (ad b694) rv21.length k23 c25 71 2] [l7 c14 rv10,l7 c826 e825.1,l7 c25 rv21] w) ?_ ?_
   ·refine wp_block (u7 (fun sv699 a w=>∃ c780 p781 k782 Sv783,Sl 68 [(1,sl p11 k12 rv10),(5,sl p781 k782 sv699.1),(7,pt b698),(8,iv sv699.2.1),(14,sl (ad b694) k23 rv21),(15,iv (rv21.length:Int)),(16,iv sv31.2),(22,sl p11 k12 rv10),(23,iv (rv10.length:Int)),(24,iv sv699.2.2)] a∧Wd ⟨w0,S0,[]⟩ Sv783 [.box b698 (C71 x687) 71,.row p11 rv10.length k12 c14 71 2,.row p781 sv699.1.length k782 c780 71 2,.row (ad b694) rv21.length k23 c25 71 2] [l7 c14 rv10,l7 c780 sv699.1,l7 c25 rv21] w) (sv31.1,x687.From,0) h931 ⟨c354,p355,k356,Sv357,wj s d [0,1,2,3] [0,1,2]⟩ ?_)
    clear h931
    repeat clear u
    rintro sv699 a w tv823 ⟨c780,p781,k782,Sv783,s,d⟩ u hd822
    refine sz0 1 s rfl fun a s=>?_
    refine wp_seq (cd s u rfl (fun u=>?_) fun u=>?_)
    ·refine sk (wp_seq (q8 (fun a w=>∃ (out867:(List Span)) (atv868:Int) (c863 p864 k865 Sv866:_),a3z sv699 out867 atv868=some tv823∧Sl 68 [(1,sl p11 k12 rv10),(5,sl p864 k865 out867),(7,pt b698),(8,iv atv868),(14,sl (ad b694) k23 rv21),(15,iv (rv21.length:Int)),(16,iv sv31.2),(22,sl p11 k12 rv10),(23,iv (rv10.length:Int)),(24,iv sv699.2.2)] a∧Wd ⟨w0,S0,[]⟩ Sv866 [.box b698 (C71 x687) 71,.row p11 rv10.length k12 c14 71 2,.row p864 out867.length k865 c863 71 2,.row (ad b694) rv21.length k23 c25 71 2] [l7 c14 rv10,l7 c863 out867,l7 c25 rv21] w) ?_ ?_))
     ·refine wp_block (sr ?_)
      obtain ⟨x871,h869,u⟩:=bt u
      obtain ⟨b878,q875,c876,h879,h872,h873,h877,h870⟩:=d.elemRV (α:=Span) 1 rfl 0 rfl h869
      have hsv880:=s
      have hwv881:=d
      subst h879
      have s:=hsv880
      have d:=hwv881
      obtain ⟨_,_,rfl,rfl,rfl⟩:=h870
      refine sv s (o6 runUnderlying30 sizeOf71 rfl rfl h872.1 h872.2 h873) rfl fun a s=>?_
      refine sv s (I1 (j:=0) (d.ownAt 1 rfl) rfl isAgg71 sizeOf71 h877 rfl rfl) rfl fun a s=>?_
      refine wa [iv 0,iv 0] s d zeroValue71 fun b882 a w s d=>?_
      refine ws (C71 x871) s d 0 rfl rfl rfl sizeOf71 fun a w s d=>?_
      refine nl (wp_seq (sn 5 [0] s d rfl rfl fun a s=>?_))
      refine rO 6 32 [0,1] s d rfl rfl rfl rfl rfl fun a s=>?_
      refine nl (cd s u rfl (fun u=>?_) fun u=>?_)
      ·exact wp_exit (j5 (o9 (tn ⟨sv699.1,sv699.2.1,c780,p781,k782,Sv783,u,wj s d [1,2,3,4] [0,1,2]⟩)))
      refine sk (wp_seq (sz 4 [0] s d rfl rfl fun a s=>?_))
      refine q8 (fun a w=>∃ (out898:(List Span)) (c894 p895 k896 Sv897:_),a3A sv699 x871 out898=some tv823∧Sl 68 [(1,sl (ad b878) k12 rv10),(5,sl p895 k896 out898),(7,pt b698),(8,iv sv699.2.1),(10,pt b882),(14,sl (ad b694) k23 rv21),(15,iv (rv21.length:Int)),(16,iv sv31.2),(22,sl (ad b878) k12 rv10),(23,iv (rv10.length:Int)),(24,iv sv699.2.2)] a∧Wd ⟨w0,S0,[]⟩ Sv897 [.box b698 (C71 x687) 71,.box b882 (C71 x871) 71,.row (ad b878) rv10.length k12 c14 71 2,.row p895 out898.length k896 c894 71 2,.row (ad b694) rv21.length k23 c25 71 2] [l7 c14 rv10,l7 c894 out898,l7 c25 rv21] w) ?_ ?_
      ·refine cd s u rfl (fun u=>?_) fun u=>?_
       ·refine wp_region_lit (rn 4 [0] s d rfl rfl fun a s=>?_)
        refine sv s (D7 (vs:=[(0,iv sv699.2.1),(1,iv x871.From)]) a6t rfl rfl) rfl fun a s=>?_
        refine o7 (α:=Span) (vs:=[.agg #[iv sv699.2.1,iv x871.From]]) (cs:=[iv sv699.2.1,iv x871.From]) (xs:=([(⟨sv699.2.1,x871.From⟩:Span)]:List Span)) s d a3o rfl rfl rfl rfl rfl rfl ⟨⟨_,_,rfl,rfl,rfl⟩,rfl⟩ rfl trivial rfl fun b903 a w s d=>?_
        obtain ⟨l905,h904,u⟩:=bt u
        refine F4 (α:=Span) s d a3o 4 rfl rfl rfl 2 rfl 0 rfl 0 rfl h904 rfl trivial ?_
        intro p906 k907 c908 a w s d
        refine rz0 1 s rfl fun a s=>?_
        exact ⟨l905,c908,p906,k907,Sv783,u,wj s d [2,1,3,4,5] [2,0,4]⟩
       exact sk ⟨sv699.1,c780,p781,k782,Sv783,u,wj s d [1,0,2,3,4] [0,1,2]⟩
      rintro a w ⟨out898,c894,p895,k896,Sv897,u,s,d⟩
      refine tn (wp_region_lit (rn 4 [1] s d rfl rfl fun a s=>?_))
      obtain ⟨atv900,h899,u⟩:=bt u
      refine sv s (o8 rfl h899) rfl fun a s=>?_
      refine wpList_nil ?_
      exact l8 (tn ⟨out898,atv900,c894,p895,k896,Sv897,u,wj s d [0,2,3,4] [0,1,2]⟩)
     rintro a w ⟨out867,atv868,c863,p864,k865,Sv866,u,s,d⟩
     refine tn (wp_region_lit (rz0 2 s rfl fun a s=>?_))
     exact ⟨_,io u,c863,p864,k865,Sv866,wj s d [0,1,2,3] [0,1,2]⟩
    refine wp_exit (j5 (j5 (o9 ?_)))
    obtain rfl:=oi u
    have h909:=hd822 _ rfl
    subst h909
    exact tn ⟨c780,p781,k782,Sv783,wj s d [0,1,2,3] [0,1,2]⟩
   rintro a w ⟨c826,p827,k828,Sv829,s,d⟩
   refine tn (sz 4 [0] s d rfl rfl fun a s=>?_)
   refine q8 (fun a w=>∃ (out922:(List Span)) (c918 p919 k920 Sv921:_),a3B sv31 out922=some tv518∧Sl 68 [(1,sl p11 k12 rv10),(5,sl p919 k920 out922),(14,sl (ad b694) k23 rv21),(15,iv (rv21.length:Int)),(16,iv sv31.2)] a∧Wd ⟨w0,S0,[]⟩ Sv921 [.row p11 rv10.length k12 c14 71 2,.row p919 out922.length k920 c918 71 2,.row (ad b694) rv21.length k23 c25 71 2] [l7 c14 rv10,l7 c918 out922,l7 c25 rv21] w) ?_ ?_
   ·refine cd s u rfl (fun u=>?_) fun u=>?_
    ·refine wp_region_lit (rn 4 [0] s d rfl rfl fun a s=>?_)
     refine sv s (D7 (vs:=[(0,iv e825.2),(1,iv x687.To)]) a6t rfl rfl) rfl fun a s=>?_
     refine o7 (α:=Span) (vs:=[.agg #[iv e825.2,iv x687.To]]) (cs:=[iv e825.2,iv x687.To]) (xs:=([(⟨e825.2,x687.To⟩:Span)]:List Span)) s d a3o rfl rfl rfl rfl rfl rfl ⟨⟨_,_,rfl,rfl,rfl⟩,rfl⟩ rfl trivial rfl fun b925 a w s d=>?_
     obtain ⟨l927,h926,u⟩:=bt u
     refine F4 (α:=Span) s d a3o 3 rfl rfl rfl 2 rfl 0 rfl 0 rfl h926 rfl trivial ?_
     intro p928 k929 c930 a w s d
     refine rz0 1 s rfl fun a s=>?_
     exact ⟨l927,c930,p928,k929,Sv829,u,wj s d [2,3,4] [2,0,4]⟩
    exact sk ⟨e825.1,c826,p827,k828,Sv829,u,wj s d [1,2,3] [0,1,2]⟩
   rintro a w ⟨out922,c918,p919,k920,Sv921,u,s,d⟩
   refine l8 (tn (wp_region_lit (rz0 2 s rfl fun a s=>?_)))
   exact ⟨_,io u,c918,p919,k920,Sv921,wj s d [0,1,2] [0,1,2]⟩
  refine wp_exit (j5 (j5 (o9 ?_)))
  obtain rfl:=oi u
  have h932:=hd517 _ rfl
  subst h932
  exact tn ⟨c354,p355,k356,Sv357,wj s d [1] [1]⟩
 rintro a w ⟨c521,p522,k523,Sv524,s,d⟩
 refine tn (sz0 2 s rfl fun a s=>?_)
 obtain rfl:=oi u
 exact q1 s rfl (d.ret ⟨p522,k523,c521,rfl,(d.outs [0] (by decide) rfl),(d.envAt 0 rfl)⟩)
theorem a5S {w0 S0 p2 k3 l1 from5 to6 r} (u:Y9 l1 from5 to6=some r) (hS:Dm S0 w0) (h4:(Sq p2 k3 l1).p S0 w0):Ck Tryz.prog 13 #[sl p2 k3 l1,iv from5,iv to6] w0 S0 [] a1x r:=by
 refine en 29 func13 rfl hS rfl rfl rfl fun a s d=>?_
 have d:=d.addE h4
 refine sz0 2 s rfl fun a s=>?_
 refine wp_seq (sn0 3 s rfl fun a s=>?_)
 obtain ⟨rv8,h7,u⟩:=bt u
 refine cV s d (a5y h7 d.bdom (d.bE 0 rfl)) (j3 call48 rfl) rfl fun a w s d=>?_
 refine rz0 1 s rfl fun a s=>?_
 refine sz0 2 s rfl fun a s=>?_
 refine cd s u rfl (fun u=>?_) fun u=>?_
 ·refine sz0 3 s rfl fun a s=>?_
  obtain rfl:=oi u
  have d:=d.nilRow Span 71
  exact wp_ret (j6 (Q8 s rfl (q9 rfl) (q9 rfl) (d.ret ⟨none,0,[],rfl,(d.outs [0] (by decide) rfl),(d.envAt 0 rfl)⟩)))
 refine sk (sn0 1 s rfl fun a s=>?_)
 obtain ⟨rv17,h16,u⟩:=bt u
 refine cR s (a9q h16 d.dom (d.envAt 0 rfl)) (j3 call49 rfl) rfl ?_
 rintro v25 Sv22 w a h23 ⟨p18,k19,c21,rfl,h26,h20⟩ s
 have d:=(d.callN h23 h26).addE (e:=l7 c21 rv17.1) h20
 refine rz0 5 s rfl fun a s=>?_
 refine sn0 2 s rfl fun a s=>?_
 refine sv s (D7 (vs:=[(0,iv from5),(1,iv to6)]) a6t rfl rfl) rfl fun a s=>?_
 refine o7 (α:=Span) (vs:=[.agg #[iv from5,iv to6]]) (cs:=[iv from5,iv to6]) (xs:=([(⟨from5,to6⟩:Span)]:List Span)) s d a3o rfl rfl rfl rfl rfl rfl ⟨⟨_,_,rfl,rfl,rfl⟩,rfl⟩ rfl trivial rfl fun b28 a w s d=>?_
 refine mv s rfl rfl fun a s=>?_
 obtain ⟨rv30,h29,u⟩:=bt u
 obtain ⟨Sv35,d⟩:=D6 (α:=Span) d 0 rfl 0 rfl
 obtain ⟨Sv36,d⟩:=D6 (α:=Span) d 0 rfl 2 rfl
 refine cR s (b2O h29 d.dom (d.envAt 1 rfl) (d.envAt 0 rfl)) (j3 call50 rfl) rfl ?_
 rintro v40 Sv37 w a h38 ⟨p31,k32,c34,rfl,h41,h33⟩ s
 have d:=(d.callN h38 h41).addE (e:=l7 c34 rv30) h33
 refine rz0 2 s rfl fun a s=>?_
 obtain rfl:=oi u
 exact wp_ret (Q8 s rfl (q9 rfl) (q9 rfl) (d.ret ⟨p31,k32,c34,rfl,(d.outs [0] (by decide) rfl),(d.envAt 0 rfl)⟩))
abbrev F3 (w0:World) (X:List Nat) (r:(List Record)):Rd:=fun S w v=>∃ p0_0 k0_0 c0_0,v=sl p0_0 k0_0 r∧Outs X w0 S w [.row p0_0 r.length k0_0 c0_0 56 12]∧(l7 c0_0 r).p S w
theorem a2H {w0 S0 p2 k3 s1 r} (u:L9 s1=some r) (hS:Dm S0 w0) (h4:(Sq p2 k3 s1).p S0 w0):Ck Tryz.prog 124 #[sl p2 k3 s1] w0 S0 [] F3 r:=by
 refine en 8 func124 rfl hS rfl rfl rfl fun a s d=>?_
 have d:=d.addE h4
 delta L9 at u
 refine sz0 1 s rfl fun a s=>?_
 refine wp_seq (sn0 1 s rfl fun a s=>?_)
 refine sv s (b5x runUnderlying28 rfl rfl) rfl fun a s=>?_
 refine nl ?_
 have hsv15:=s
 have hwv16:=d
 rcases p2 with _ | av8
 ·have s:=hsv15
  have d:=hwv16
  obtain rfl:=slnil (d.envAt 0 rfl)
  have u:some ([]:List Record)=some r:=by simpa [U8,maxLen] using u
  refine wp_cond_true (s.ev rfl) ?_
  refine sz0 1 s rfl fun a s=>?_
  obtain rfl:=oi u
  have d:=d.nilRow Record 56
  exact wp_ret (j6 (rt s rfl (d.ret ⟨none,0,[],rfl,(d.outs [0] (by decide) rfl),(d.envAt 0 rfl)⟩)))
 have s:=hsv15
 have d:=hwv16
 refine wp_cond_false (s.ev rfl) ?_
 refine sk (sr (a5L (α:=Record) (vs:=[]) (cs:=[]) (xs:=([]:List Record)) s d a9F rfl rfl rfl rfl rfl rfl rfl rfl trivial fun p9 a w s d=>?_))
 refine mv s rfl rfl fun a s=>?_
 obtain ⟨l11,h10,u⟩:=bt u
 refine a1q (α:=Record) s d a9F 0 rfl rfl rfl 0 rfl 1 rfl h10 rfl trivial ?_
 intro p12 k13 c14 a w s d
 refine rz0 1 s rfl fun a s=>?_
 obtain rfl:=oi u
 exact q1 s rfl (d.ret ⟨p12,k13,c14,rfl,(d.outs [0] (by decide) rfl),(d.envAt 0 rfl)⟩)
abbrev K3 (w0:World) (X:List Nat) (r:(List Int)):Rd:=fun S w v=>∃ p0_0 k0_0 c0_0,v=sl p0_0 k0_0 r∧Outs X w0 S w [.row p0_0 r.length k0_0 c0_0 3 1]∧(l7 c0_0 r).p S w
theorem a0Y {w0 S0 p2 k3 s1 r} (u:K7 s1=some r) (hS:Dm S0 w0) (h4:(Sq p2 k3 s1).p S0 w0):Ck Tryz.prog 66 #[sl p2 k3 s1] w0 S0 [] K3 r:=by
 refine en 8 func66 rfl hS rfl rfl rfl fun a s d=>?_
 have d:=d.addE h4
 delta K7 at u
 refine sz0 1 s rfl fun a s=>?_
 refine wp_seq (sn0 1 s rfl fun a s=>?_)
 refine sv s (b5x runUnderlying22 rfl rfl) rfl fun a s=>?_
 refine nl ?_
 have hsv15:=s
 have hwv16:=d
 rcases p2 with _ | av8
 ·have s:=hsv15
  have d:=hwv16
  obtain rfl:=slnil (d.envAt 0 rfl)
  have u:some ([]:List Int)=some r:=by simpa [U8,maxLen] using u
  refine wp_cond_true (s.ev rfl) ?_
  refine sz0 1 s rfl fun a s=>?_
  obtain rfl:=oi u
  have d:=d.nilRow Int 3
  exact wp_ret (j6 (rt s rfl (d.ret ⟨none,0,[],rfl,(d.outs [0] (by decide) rfl),(d.envAt 0 rfl)⟩)))
 have s:=hsv15
 have d:=hwv16
 refine wp_cond_false (s.ev rfl) ?_
 refine sk (sr (a5L (α:=Int) (vs:=[]) (cs:=[]) (xs:=([]:List Int)) s d S9 rfl rfl rfl rfl rfl rfl rfl rfl trivial fun p9 a w s d=>?_))
 refine mv s rfl rfl fun a s=>?_
 obtain ⟨l11,h10,u⟩:=bt u
 refine a1q (α:=Int) s d S9 0 rfl rfl rfl 0 rfl 1 rfl h10 rfl trivial ?_
 intro p12 k13 c14 a w s d
 refine rz0 1 s rfl fun a s=>?_
 obtain rfl:=oi u
 exact q1 s rfl (d.ret ⟨p12,k13,c14,rfl,(d.outs [0] (by decide) rfl),(d.envAt 0 rfl)⟩)
end Go.Proofs.YtdcafiefjakfeaaGreat.Wk
namespace Go.Proofs
open Go Go.Shelf Go.RowKit Go.Lib Go.Sort
def Tryz.sort125_ren:Go.Shelf.Ren:=⟨fun | 6=>125 | 15=>130 | 14=>152 | 28=>167 | 29=>168 | 20=>185 | 21=>186 | 22=>187 | 23=>188 | 24=>189 | 25=>190 | 26=>191 | 27=>192 | 46=>202 | 47=>195 | 48=>196 | 49=>203 | 50=>204 | 57=>208 | n=>n,fun | 22=>28 | 24=>56 | 25=>127 | 3=>3 | 39=>146 | 0=>0 | 53=>172 | 55=>174 | 4=>4 | 46=>166 | 45=>165 | 50=>44 | 5=>5 | 9=>9 | 66=>191 | 70=>195 | 76=>202 | 77=>203 | n=>n,fun | n=>n⟩
theorem Tryz.sort125:Go.Proofs.SlLaysF0.n6 Tryz.prog Tryz.sort125_ren where
  mixed:=by kernel_rfl
  f6:=⟨Tryz.f125.name,by decide,Tryz.func125.trans (congrArg some (by kernel_rfl))⟩
  f14:=⟨Tryz.f152.name,by decide,Tryz.func152.trans (congrArg some (by kernel_rfl))⟩
  f15:=Tryz.func130.trans (congrArg some (by kernel_rfl))
  f20:=⟨Tryz.f185.name,by decide,Tryz.func185.trans (congrArg some (by kernel_rfl))⟩
  f21:=⟨Tryz.f186.name,by decide,Tryz.func186.trans (congrArg some (by kernel_rfl))⟩
  f22:=⟨Tryz.f187.name,by decide,Tryz.func187.trans (congrArg some (by kernel_rfl))⟩
  f23:=⟨Tryz.f188.name,by decide,Tryz.func188.trans (congrArg some (by kernel_rfl))⟩
  f24:=⟨Tryz.f189.name,by decide,Tryz.func189.trans (congrArg some (by kernel_rfl))⟩
  f25:=⟨Tryz.f190.name,by decide,Tryz.func190.trans (congrArg some (by kernel_rfl))⟩
  f26:=⟨Tryz.f191.name,by decide,Tryz.func191.trans (congrArg some (by kernel_rfl))⟩
  f27:=⟨Tryz.f192.name,by decide,Tryz.func192.trans (congrArg some (by kernel_rfl))⟩
  f28:=Tryz.func167.trans (congrArg some (by kernel_rfl))
  f29:=Tryz.func168.trans (congrArg some (by kernel_rfl))
  f46:=⟨Tryz.f202.name,by decide,Tryz.func202.trans (congrArg some (by kernel_rfl))⟩
  f47:=Tryz.func195.trans (congrArg some (by kernel_rfl))
  f48:=Tryz.func196.trans (congrArg some (by kernel_rfl))
  f49:=⟨Tryz.f203.name,by decide,Tryz.func203.trans (congrArg some (by kernel_rfl))⟩
  f50:=⟨Tryz.f204.name,by decide,Tryz.func204.trans (congrArg some (by kernel_rfl))⟩
  f57:=⟨Tryz.f208.name,by decide,Tryz.func208.trans (congrArg some (by kernel_rfl))⟩
  t0:=Tryz.underlying0
  a0:=Tryz.isAgg0
  z0:=Tryz.sizeOf0
  v0:=Tryz.zeroValue0
  t3:=Tryz.underlying3
  a3:=Tryz.isAgg3
  z3:=Tryz.sizeOf3
  v3:=Tryz.zeroValue3
  t4:=Tryz.underlying4
  a4:=Tryz.isAgg4
  z4:=Tryz.sizeOf4
  v4:=Tryz.zeroValue4
  t5:=Tryz.underlying5
  a5:=Tryz.isAgg5
  z5:=Tryz.sizeOf5
  v5:=Tryz.zeroValue5
  t9:=Tryz.underlying9
  a9:=Tryz.isAgg9
  z9:=Tryz.sizeOf9
  v9:=Tryz.zeroValue9
  t22:=Tryz.underlying28
  a22:=Tryz.isAgg28
  z22:=Tryz.sizeOf28
  v22:=Tryz.zeroValue28
  t25:=Tryz.underlying127
  a25:=Tryz.isAgg127
  z25:=Tryz.sizeOf127
  v25:=Tryz.zeroValue127
  t39:=Tryz.underlying146
  a39:=Tryz.isAgg146
  z39:=Tryz.sizeOf146
  v39:=Tryz.zeroValue146
  t45:=Tryz.underlying165
  a45:=Tryz.isAgg165
  z45:=Tryz.sizeOf165
  v45:=Tryz.zeroValue165
  t46:=Tryz.underlying166
  a46:=Tryz.isAgg166
  z46:=Tryz.sizeOf166
  v46:=Tryz.zeroValue166
  t50:=Tryz.underlying44
  a50:=Tryz.isAgg44
  z50:=Tryz.sizeOf44
  v50:=Tryz.zeroValue44
  t53:=Tryz.underlying172
  a53:=Tryz.isAgg172
  z53:=Tryz.sizeOf172
  v53:=Tryz.zeroValue172
  t55:=Tryz.underlying174
  a55:=Tryz.isAgg174
  z55:=Tryz.sizeOf174
  v55:=Tryz.zeroValue174
  t66:=Tryz.underlying191
  a66:=Tryz.isAgg191
  z66:=Tryz.sizeOf191
  v66:=Tryz.zeroValue191
  t70:=Tryz.underlying195
  a70:=Tryz.isAgg195
  z70:=Tryz.sizeOf195
  v70:=Tryz.zeroValue195
  t76:=Tryz.underlying202
  a76:=Tryz.isAgg202
  z76:=Tryz.sizeOf202
  v76:=Tryz.zeroValue202
  t77:=Tryz.underlying203
  a77:=Tryz.isAgg203
  z77:=Tryz.sizeOf203
  v77:=Tryz.zeroValue203
end Go.Proofs
namespace Go.Proofs.YtdcafiefjakfeaaGreat.Wk
open Go Go.RowKit Go.Proofs Go.Proofs.YtdcafiefjakfeaaGreat.Sh Go.Proofs.Tryz
set_option linter.unusedVariables false
set_option linter.unusedSimpArgs false
abbrev a1Z (w0:World) (X:List Nat) (p2:Option Addr) (k3:Nat) (x1:(List Record)) (r:(List Record)):(Nat→Prop)→World→Value→Prop:=fun S w v=>∃ ck_0,v=.tuple #[]∧Outs X w0 S w [.row p2 r.length k3 ck_0 56 12]∧(l7 ck_0 r).p S w∧(a1r x1.length r).p S w
theorem U1 {w0 S0 p2 k3 c4 g7 cp9 x1} {cmp6:Record→Record→Option Int} {r} (u:H6 x1 cmp6=some r) (hS:Dm S0 w0) (hin:Ins S0 w0 [.row p2 x1.length k3 c4 56 12]) (h5:(l7 c4 x1).p S0 w0) (h10:(a9G Tryz.prog g7 [] cp9 cmp6).p S0 w0):Calls Tryz.prog 125 #[sl p2 k3 x1,.func (.func g7) #[] cp9.toArray] w0 (Ret (I8 [.row p2 x1.length k3 c4 56 12]) w0 S0 (a1Z w0 (I8 [.row p2 x1.length k3 c4 56 12]) p2 k3 x1 r)):=by
 exact sort_tot (α:=Record) (T:=56) Tryz.sort125 isAgg56 sizeOf56 (fun _=>rfl) (by decide) u hS hin h5 h10
theorem a5x {w0 S0 x1 r} (u:cmp_isNaN_string x1=some r) (hS:Dm S0 w0):Ck Tryz.prog 205 #[.string x1] w0 S0 [] u6 r:=by
 refine en 6 func205 rfl hS rfl rfl rfl fun a s d=>?_
 refine sz0 1 s rfl fun a s=>?_
 refine sn0 2 s rfl fun a s=>?_
 refine sv s (y_neqS rfl rfl) rfl fun a s=>?_
 refine rz0 1 s rfl fun a s=>?_
 obtain rfl:=oi u
 exact q1 s rfl (d.ret rfl)
theorem a0r {w0 S0 x1 y2 r} (u:Q4 x1 y2=some r) (hS:Dm S0 w0):Ck Tryz.prog 193 #[.string x1,.string y2] w0 S0 [] j4 r:=by
 refine en 20 func193 rfl hS rfl rfl rfl fun a s d=>?_
 refine sz0 1 s rfl fun a s=>?_
 refine sn0 1 s rfl fun a s=>?_
 obtain ⟨rv4,h3,u⟩:=bt u
 refine cV s d (a5x h3 d.bdom) (j3 call205 rfl) rfl fun a w s d=>?_
 refine rz0 1 s rfl fun a s=>?_
 refine sn0 1 s rfl fun a s=>?_
 obtain ⟨rv11,h10,u⟩:=bt u
 refine cV s d (a5x h10 d.bdom) (j3 call205 rfl) rfl fun a w s d=>?_
 refine rz0 1 s rfl fun a s=>?_
 refine wp_seq (sz0 1 s rfl fun a s=>?_)
 refine cd s u rfl (fun u=>?_) fun u=>?_
 ·refine wp_seq (sz0 1 s rfl fun a s=>?_)
  refine cd s u rfl (fun u=>?_) fun u=>?_
  ·refine sz0 1 s rfl fun a s=>?_
   obtain rfl:=oi u
   exact wp_ret (j6 (j6 (rt s rfl (d.ret rfl))))
  refine sk (sz0 1 s rfl fun a s=>?_)
  obtain rfl:=oi u
  exact wp_ret (j6 (rt s rfl (d.ret rfl)))
 refine sk (wp_seq (sz0 1 s rfl fun a s=>?_))
 refine cd s u rfl (fun u=>?_) fun u=>?_
 ·refine sz0 1 s rfl fun a s=>?_
  obtain rfl:=oi u
  exact wp_ret (j6 (rt s rfl (d.ret rfl)))
 refine sk (wp_seq (sn0 2 s rfl fun a s=>?_))
 refine sv s (y_lssS rfl rfl) rfl fun a s=>?_
 refine nl (cd s u rfl (fun u=>?_) fun u=>?_)
 ·refine sz0 1 s rfl fun a s=>?_
  obtain rfl:=oi u
  exact wp_ret (j6 (rt s rfl (d.ret rfl)))
 refine sk (wp_seq (sn0 2 s rfl fun a s=>?_))
 refine sv s (y_gtrS rfl rfl) rfl fun a s=>?_
 refine nl (cd s u rfl (fun u=>?_) fun u=>?_)
 ·refine sz0 1 s rfl fun a s=>?_
  obtain rfl:=oi u
  exact wp_ret (j6 (rt s rfl (d.ret rfl)))
 refine sk (sz0 1 s rfl fun a s=>?_)
 obtain rfl:=oi u
 exact q1 s rfl (d.ret rfl)
theorem a6M {w0 S0 p2 k3 vals1 r} (u:a4G vals1=some r) (hS:Dm S0 w0) (h4:(Sq p2 k3 vals1).p S0 w0):Ck Tryz.prog 153 #[sl p2 k3 vals1] w0 S0 [] j4 r:=by
 refine en 18 func153 rfl hS rfl rfl rfl fun a s d=>?_
 have d:=d.addE h4
 refine sz0 1 s rfl fun a s=>?_
 refine sz0 1 s rfl fun a s=>?_
 refine wp_seq (sz0 3 s rfl fun a s=>?_)
 refine wp_block (u7 (fun sv55 a w=>∃ Sv87,Sl 18 [(3,iv 0),(6,sl p2 k3 vals1),(7,iv (vals1.length:Int)),(8,iv sv55)] a∧Wd ⟨w0,S0,[]⟩ Sv87 [] [Sq p2 k3 vals1] w) 0 u ⟨S0,wj s d [] [0]⟩ ?_)
 repeat clear u
 rintro sv55 a w tv104 ⟨Sv87,s,d⟩ u hd103
 refine sz0 1 s rfl fun a s=>?_
 refine wp_seq (cd s u rfl (fun u=>?_) fun u=>?_)
 ·refine sk (wp_seq (wp_block (sr ?_)))
  obtain ⟨x125,h123,u⟩:=bt u
  obtain ⟨b131,o132,q129,c130,h133,h126,h127,h128,h124⟩:=d.elemV 0 rfl h123
  have hsv134:=s
  have hwv135:=d
  subst h133
  have s:=hsv134
  have d:=hwv135
  obtain ⟨_,rfl,rfl⟩:=h124
  have d:=d.addE h128
  refine sv s (o6 runUnderlying22 sizeOf3 rfl rfl h126.1 h126.2 h127) rfl fun a s=>?_
  refine sv s (C8 (j:=0) (d.ceAt 0 rfl) rfl isAgg3 rfl) rfl fun a s=>?_
  refine rz0 1 s rfl fun a s=>?_
  refine sz0 3 s rfl fun a s=>?_
  refine cd s u rfl (fun u=>?_) fun u=>?_
  ·refine sz0 2 s rfl fun a s=>?_
   obtain rfl:=oi u
   have h138:=hd103 _ rfl
   subst h138
   exact wp_ret (A8 (j6 (j6 (A8 (j6 (rt s rfl (d.ret rfl)))))))
  refine wp_skip (l8 (tn (wp_region_lit (rz0 2 s rfl fun a s=>?_))))
  exact ⟨_,io u,Sv87,wj s d [] [1]⟩
 obtain ⟨rv139,u,h140⟩:=a0x u
 have h140:=(hd103 _ h140.symm).symm
 subst h140
 refine wp_exit (j5 (j5 (o9 (tn (sz0 2 s rfl fun a s=>?_)))))
 obtain rfl:=oi u
 exact q1 s rfl (d.ret rfl)
theorem b0i {w0 S0 a1 b2 r} (u:a4u a1 b2=some r) (hS:Dm S0 w0):Ck Tryz.prog 154 #[V52 a1,V52 b2] w0 S0 [] j4 r:=by
 refine en 27 func154 rfl hS rfl rfl rfl fun a s d=>?_
 refine sr (wb (C52 a1) s d rfl fun b3 a w s d=>?_)
 refine wb (C52 b2) s d rfl fun b4 a w s d=>?_
 refine rz0 1 s rfl fun a s=>?_
 refine wp_seq ?_
 obtain ⟨rv6,h5,u⟩:=bt u
 obtain ⟨rv8,h7,u⟩:=bt u
 obtain ⟨rv10,h9,u⟩:=bt u
 obtain ⟨rv12,h11,u⟩:=bt u
 obtain ⟨rv16,h15,u⟩:=bt u
 refine A9 (fun a w=>∃ Sv17,Sl 27 [(4,iv rv16)] a∧Wd ⟨w0,S0,[]⟩ Sv17 [] [] w) ?_ ?_
 ·refine h_c [0,1] [] d rfl rfl (by kernel_rfl) rfl fun hC d=>?_
  refine gn 16 [0,1,2,3,5,6,7,8,10,11,12,13,15,16,17,18] [1,0,1,0,1,0,1,0] s hC rfl rfl rfl fun a s=>?_
  refine ho 4 rfl ?_
  refine cV s d (a0r h5 d.bdom) (j3 call193 rfl) rfl fun a w s d=>?_
  refine h_n [0,1] [] d rfl rfl fun hC=>?_
  refine ho 9 rfl ?_
  refine cV s d (a0r h7 d.bdom) (j3 call193 rfl) rfl fun a w s d=>?_
  refine h_n [0,1] [] d rfl rfl fun hC=>?_
  refine ho 14 rfl ?_
  refine cV s d (a0r h9 d.bdom) (j3 call193 rfl) rfl fun a w s d=>?_
  refine h_n [0,1] [] d rfl rfl fun hC=>?_
  refine ho 19 rfl ?_
  refine cV s d (a0r h11 d.bdom) (j3 call193 rfl) rfl fun a w s d=>?_
  refine h_n [0,1] [] d rfl rfl fun hC=>?_
  refine ho 20 rfl ?_
  refine o7 (α:=Int) (vs:=[iv rv6,iv rv8,iv rv10,iv rv12]) (cs:=[iv rv6,iv rv8,iv rv10,iv rv12]) (xs:=([rv6,rv8,rv10,rv12]:List Int)) s d S9 rfl rfl rfl rfl rfl rfl ⟨⟨_,rfl,rfl⟩,⟨⟨_,rfl,rfl⟩,⟨⟨_,rfl,rfl⟩,⟨⟨_,rfl,rfl⟩,rfl⟩⟩⟩⟩ rfl trivial rfl fun b14 a w s d=>?_
  refine h_n [1,2] [] d rfl rfl fun hC=>?_
  refine h_d [1,2,0] [] [0,1] [] d rfl rfl rfl rfl fun hC=>?_
  refine ho 21 rfl ?_
  refine cV s d (a6M h15 d.bdom (d.bRow 0 rfl 0 rfl)) (j3 call153 rfl) rfl fun a w s d=>?_
  refine h_n [1,2,0] [] d rfl rfl fun hC=>?_
  refine gv s 22 rfl rfl hC (fun w hC=>R8 rfl) fun a s=>?_
  refine y7 (by kernel_rfl) ?_
  exact ⟨S0,wj s d [] []⟩
 rintro a w ⟨Sv17,s,d⟩
 refine tn ?_
 obtain rfl:=oi u
 exact q1 s rfl (d.ret rfl)
theorem a2C {w0 S0 p2 k3 r1 i5 r} (u:a1u r1 i5=some r) (hS:Dm S0 w0) (h4:(Sq p2 k3 r1.Samples).p S0 w0):Ck Tryz.prog 107 #[V56 r1 p2 k3,iv i5] w0 S0 [] j4 r:=by
 refine en 20 func107 rfl hS rfl rfl rfl fun a s d=>?_
 have d:=d.addE h4
 refine sr (wb (C56 r1 p2 k3) s d rfl fun b6 a w s d=>?_)
 refine rz0 1 s rfl fun a s=>?_
 refine sn 8 [0,0,0] s d rfl rfl fun a s=>?_
 obtain ⟨rv8,h7,u⟩:=bt u
 refine cV s d (a2W h7 d.bdom) (j3 call94 rfl) rfl fun a w s d=>?_
 refine rz0 5 s rfl fun a s=>?_
 refine sz0 2 s rfl fun a s=>?_
 obtain rfl:=oi u
 exact q1 s rfl (d.ret rfl)
theorem a7Y {w0 S0 p2 k3 r1 r} (u:a4g r1=some r) (hS:Dm S0 w0) (h4:(Sq p2 k3 r1.Samples).p S0 w0):Ck Tryz.prog 155 #[V56 r1 p2 k3] w0 S0 [] j4 r:=by
 refine en 8 func155 rfl hS rfl rfl rfl fun a s d=>?_
 have d:=d.addE h4
 refine sr (wb (C56 r1 p2 k3) s d rfl fun b5 a w s d=>?_)
 refine rz0 1 s rfl fun a s=>?_
 refine wp_seq (sn 1 [0] s d rfl rfl fun a s=>?_)
 obtain ⟨rv7,h6,u⟩:=bt u
 refine cV s d (a0a h6 d.bdom (d.bE 0 rfl)) (j3 call84 rfl) rfl fun a w s d=>?_
 refine rz0 1 s rfl fun a s=>?_
 refine cd s u rfl (fun u=>?_) fun u=>?_
 ·refine sz0 1 s rfl fun a s=>?_
  obtain rfl:=oi u
  exact wp_ret (j6 (rt s rfl (d.ret rfl)))
 refine sk (sn 1 [0] s d rfl rfl fun a s=>?_)
 obtain ⟨rv16,h15,u⟩:=bt u
 refine cV s d (a2C h15 d.bdom (d.bE 0 rfl)) (j3 call107 rfl) rfl fun a w s d=>?_
 refine rz0 1 s rfl fun a s=>?_
 obtain rfl:=oi u
 exact q1 s rfl (d.ret rfl)
theorem a6i {w0 S0 p2 k3 p6 k7 s1_1 s2_5 r} (u:Y8 s1_1 s2_5=some r) (hS:Dm S0 w0) (h4:(Sq p2 k3 s1_1).p S0 w0) (h8:(Sq p6 k7 s2_5).p S0 w0):Ck Tryz.prog 156 #[sl p2 k3 s1_1,sl p6 k7 s2_5] w0 S0 [] j4 r:=by
 refine en 36 func156 rfl hS rfl rfl rfl fun a s d=>?_
 have d:=(d.addE h4).addE h8
 refine sz0 1 s rfl fun a s=>?_
 refine wp_seq (sz0 3 s rfl fun a s=>?_)
 refine wp_block (u7 (fun sv122 a w=>∃ Sv196,Sl 36 [(0,sl p2 k3 s1_1),(1,sl p6 k7 s2_5),(9,sl p2 k3 s1_1),(10,iv (s1_1.length:Int)),(11,iv sv122)] a∧Wd ⟨w0,S0,[]⟩ Sv196 [] [Sq p2 k3 s1_1,Sq p6 k7 s2_5] w) 0 u ⟨S0,wj s d [] [1,0]⟩ ?_)
 repeat clear u
 rintro sv122 a w tv234 ⟨Sv196,s,d⟩ u hd233
 refine sz0 1 s rfl fun a s=>?_
 refine wp_seq (cd s u rfl (fun u=>?_) fun u=>?_)
 ·refine sk (wp_seq (wp_block (sn0 1 s rfl fun a s=>?_)))
  obtain ⟨x276,h274,u⟩:=bt u
  obtain ⟨b282,o283,q280,c281,h284,h277,h278,h279,h275⟩:=d.elemV 0 rfl h274
  have hsv285:=s
  have hwv286:=d
  subst h284
  have s:=hsv285
  have d:=hwv286
  obtain ⟨_,rfl,rfl⟩:=h275
  have d:=d.addE h279
  refine sv s (o6 runUnderlying22 sizeOf3 rfl rfl h277.1 h277.2 h278) rfl fun a s=>?_
  refine sv s (C8 (j:=0) (d.ceAt 0 rfl) rfl isAgg3 rfl) rfl fun a s=>?_
  refine rz0 2 s rfl fun a s=>?_
  refine wp_seq (sz0 4 s rfl fun a s=>?_)
  refine cd s u rfl (fun u=>?_) fun u=>?_
  ·refine sz0 1 s rfl fun a s=>?_
   obtain rfl:=oi u
   have h289:=hd233 _ rfl
   subst h289
   exact wp_ret (j6 (A8 (j6 (j6 (A8 (j6 (rt s rfl (d.ret rfl))))))))
  refine sk (sn0 2 s rfl fun a s=>?_)
  obtain ⟨x292,h290,u⟩:=bt u
  obtain ⟨b298,o299,q296,c297,h300,h293,h294,h295,h291⟩:=d.elemV 2 rfl h290
  have hsv301:=s
  have hwv302:=d
  subst h300
  have s:=hsv301
  have d:=hwv302
  obtain ⟨_,rfl,rfl⟩:=h291
  have d:=d.addE h295
  refine sv s (o6 runUnderlying22 sizeOf3 rfl rfl h293.1 h293.2 h294) rfl fun a s=>?_
  refine sv s (C8 (j:=0) (d.ceAt 0 rfl) rfl isAgg3 rfl) rfl fun a s=>?_
  refine rz0 1 s rfl fun a s=>?_
  refine sn0 2 s rfl fun a s=>?_
  obtain ⟨rv304,h303,u⟩:=bt u
  refine cV s d (F6 h303 d.bdom) (j3 call123 rfl) rfl fun a w s d=>?_
  refine rz0 1 s rfl fun a s=>?_
  refine sz0 2 s rfl fun a s=>?_
  refine cd s u rfl (fun u=>?_) fun u=>?_
  ·refine sz0 2 s rfl fun a s=>?_
   obtain rfl:=oi u
   have h312:=hd233 _ rfl
   subst h312
   exact wp_ret (A8 (j6 (j6 (A8 (j6 (rt s rfl (d.ret rfl)))))))
  refine wp_skip (l8 (tn (wp_region_lit (rz0 2 s rfl fun a s=>?_))))
  exact ⟨_,io u,Sv196,wj s d [] [2,3]⟩
 obtain ⟨rv315,u,h316⟩:=a0x u
 have h316:=(hd233 _ h316.symm).symm
 subst h316
 refine wp_exit (j5 (j5 (o9 (tn (wp_seq (sz0 5 s rfl fun a s=>?_))))))
 refine cd s u rfl (fun u=>?_) fun u=>?_
 ·refine sz0 1 s rfl fun a s=>?_
  obtain rfl:=oi u
  exact wp_ret (j6 (rt s rfl (d.ret rfl)))
 refine sk (sz0 1 s rfl fun a s=>?_)
 obtain rfl:=oi u
 exact q1 s rfl (d.ret rfl)
theorem a6A {w0 S0 p2 k3 p6 k7 a1 b5 r} (u:J8 a1 b5=some r) (hS:Dm S0 w0) (h4:(Sq p2 k3 a1.Samples).p S0 w0) (h8:(Sq p6 k7 b5.Samples).p S0 w0):Ck Tryz.prog 126 #[V56 a1 p2 k3,V56 b5 p6 k7] w0 S0 [] j4 r:=by
 refine en 68 func126 rfl hS rfl rfl rfl fun a s d=>?_
 have d:=(d.addE h4).addE h8
 refine sr (wb (C56 a1 p2 k3) s d rfl fun b9 a w s d=>?_)
 refine wb (C56 b5 p6 k7) s d rfl fun b10 a w s d=>?_
 refine rz0 1 s rfl fun a s=>?_
 refine wp_seq ?_
 obtain ⟨rv12,h11,u⟩:=bt u
 obtain ⟨rv14,h13,u⟩:=bt u
 obtain ⟨rv16,h15,u⟩:=bt u
 obtain ⟨rv18,h17,u⟩:=bt u
 obtain ⟨rv20,h19,u⟩:=bt u
 obtain ⟨rv22,h21,u⟩:=bt u
 obtain ⟨rv24,h23,u⟩:=bt u
 obtain ⟨rv26,h25,u⟩:=bt u
 obtain ⟨rv28,h27,u⟩:=bt u
 obtain ⟨rv30,h29,u⟩:=bt u
 obtain ⟨rv32,h31,u⟩:=bt u
 obtain ⟨rv34,h33,u⟩:=bt u
 obtain ⟨rv36,h35,u⟩:=bt u
 obtain ⟨rv40,h39,u⟩:=bt u
 refine A9 (fun a w=>∃ Sv41,Sl 68 [(4,iv rv40)] a∧Wd ⟨w0,S0,[]⟩ Sv41 [] [] w) ?_ ?_
 ·refine h_c [0,1] [] d rfl rfl (by kernel_rfl) rfl fun hC d=>?_
  refine gn 48 [0,1,2,3,5,7,10,11,12,13,15,16,17,18,20,21,22,23,24,25,27,28,29,30,31,32,34,35,36,37,39,40,41,42,44,45,46,47,49,50,51,52,53,54,56,57,58,59] [1,0,1,0,1,0,1,0,1,0,1,0,1,0,1,0,1,0,1,0,1,0] s hC rfl rfl rfl fun a s=>?_
  refine ho 4 rfl ?_
  refine cV s d (b0i h11 d.bdom) (j3 call154 rfl) rfl fun a w s d=>?_
  refine h_n [0,1] [] d rfl rfl fun hC=>?_
  refine ho 6 rfl ?_
  refine cV s d (a7Y h13 d.bdom (d.bE 1 rfl)) (j3 call155 rfl) rfl fun a w s d=>?_
  refine h_n [0,1] [] d rfl rfl fun hC=>?_
  refine ho 8 rfl ?_
  refine cV s d (a7Y h15 d.bdom (d.bE 0 rfl)) (j3 call155 rfl) rfl fun a w s d=>?_
  refine h_n [0,1] [] d rfl rfl fun hC=>?_
  refine ho 9 rfl ?_
  refine cV s d (F6 h17 d.bdom) (j3 call123 rfl) rfl fun a w s d=>?_
  refine h_n [0,1] [] d rfl rfl fun hC=>?_
  refine ho 14 rfl ?_
  refine cV s d (F6 h19 d.bdom) (j3 call123 rfl) rfl fun a w s d=>?_
  refine h_n [0,1] [] d rfl rfl fun hC=>?_
  refine ho 19 rfl ?_
  refine cV s d (F6 h21 d.bdom) (j3 call123 rfl) rfl fun a w s d=>?_
  refine h_n [0,1] [] d rfl rfl fun hC=>?_
  refine ho 26 rfl ?_
  refine cV s d (F6 h23 d.bdom) (j3 call123 rfl) rfl fun a w s d=>?_
  refine h_n [0,1] [] d rfl rfl fun hC=>?_
  refine ho 33 rfl ?_
  refine cV s d (F6 h25 d.bdom) (j3 call123 rfl) rfl fun a w s d=>?_
  refine h_n [0,1] [] d rfl rfl fun hC=>?_
  refine ho 38 rfl ?_
  refine cV s d (F6 h27 d.bdom) (j3 call123 rfl) rfl fun a w s d=>?_
  refine h_n [0,1] [] d rfl rfl fun hC=>?_
  refine ho 43 rfl ?_
  refine cV s d (F6 h29 d.bdom) (j3 call123 rfl) rfl fun a w s d=>?_
  refine h_n [0,1] [] d rfl rfl fun hC=>?_
  refine ho 48 rfl ?_
  refine cV s d (F6 h31 d.bdom) (j3 call123 rfl) rfl fun a w s d=>?_
  refine h_n [0,1] [] d rfl rfl fun hC=>?_
  refine ho 55 rfl ?_
  refine cV s d (F6 h33 d.bdom) (j3 call123 rfl) rfl fun a w s d=>?_
  refine h_n [0,1] [] d rfl rfl fun hC=>?_
  refine ho 60 rfl ?_
  refine cV s d (a6i h35 d.bdom (d.bE 1 rfl) (d.bE 0 rfl)) (j3 call156 rfl) rfl fun a w s d=>?_
  refine h_n [0,1] [] d rfl rfl fun hC=>?_
  refine ho 61 rfl ?_
  refine o7 (α:=Int) (vs:=[iv rv12,iv rv18,iv rv20,iv rv22,iv rv24,iv rv26,iv rv28,iv rv30,iv rv32,iv rv34,iv rv36]) (cs:=[iv rv12,iv rv18,iv rv20,iv rv22,iv rv24,iv rv26,iv rv28,iv rv30,iv rv32,iv rv34,iv rv36]) (xs:=([rv12,rv18,rv20,rv22,rv24,rv26,rv28,rv30,rv32,rv34,rv36]:List Int)) s d S9 rfl rfl rfl rfl rfl rfl ⟨⟨_,rfl,rfl⟩,⟨⟨_,rfl,rfl⟩,⟨⟨_,rfl,rfl⟩,⟨⟨_,rfl,rfl⟩,⟨⟨_,rfl,rfl⟩,⟨⟨_,rfl,rfl⟩,⟨⟨_,rfl,rfl⟩,⟨⟨_,rfl,rfl⟩,⟨⟨_,rfl,rfl⟩,⟨⟨_,rfl,rfl⟩,⟨⟨_,rfl,rfl⟩,rfl⟩⟩⟩⟩⟩⟩⟩⟩⟩⟩⟩ rfl trivial rfl fun b38 a w s d=>?_
  refine h_n [1,2] [] d rfl rfl fun hC=>?_
  refine h_d [1,2,0] [] [0,1] [] d rfl rfl rfl rfl fun hC=>?_
  refine ho 62 rfl ?_
  refine cV s d (a6M h39 d.bdom (d.bRow 0 rfl 0 rfl)) (j3 call153 rfl) rfl fun a w s d=>?_
  refine h_n [1,2,0] [] d rfl rfl fun hC=>?_
  refine gv s 63 rfl rfl hC (fun w hC=>R8 rfl) fun a s=>?_
  refine y7 (by kernel_rfl) ?_
  exact ⟨S0,wj s d [] []⟩
 rintro a w ⟨Sv41,s,d⟩
 refine tn ?_
 obtain rfl:=oi u
 exact q1 s rfl (d.ret rfl)
theorem a6z (S0:Nat→Prop) (w0:World):(a9G Tryz.prog 126 [] [] J8).p S0 w0:=by
  refine ⟨call126,?_⟩
  rintro S1 w1 hk hS c0 c1 x0 x1 r1 ⟨_,_,_,_,_,_,_,_,_,_,_,_,rfl,rfl,rfl,rfl,rfl,rfl,rfl,rfl,rfl,rfl,rfl,rfl,⟨_,_,_,rfl,e0⟩⟩ h1 hf
  obtain ⟨_,_,_,_,_,_,_,_,_,_,_,_,rfl,rfl,rfl,rfl,rfl,rfl,rfl,rfl,rfl,rfl,rfl,rfl,⟨_,_,_,rfl,e1⟩⟩:=h1
  obtain rfl:=e0.1
  obtain rfl:=e1.1
  exact a6A hf hS e0 e1
abbrev E127_0:Record:=((⟨(⟨ByteArray.empty,ByteArray.empty,ByteArray.empty,ByteArray.empty⟩:SourceID),0,0,(⟨0,0⟩:Rate),0,0,0,([]:List Int)⟩:Record):Record)
theorem a1m {w0 S0 p2 k3 c4 g7 f8 cp9 s1} {eq6:Record→Record→Option Bool} {r} (u:M5 s1 eq6=some r) (hS:Dm S0 w0) (hin:Ins S0 w0 [.row p2 s1.length k3 c4 56 12]) (h5:(l7 c4 s1).p S0 w0) (h10:(a9G Tryz.prog g7 f8 cp9 eq6).p S0 w0):Ck Tryz.prog 127 #[sl p2 k3 s1,.func (.func g7) f8.toArray cp9.toArray] w0 S0 (I8 [.row p2 s1.length k3 c4 56 12]) F3 r:=by
 refine enI 66 func127 rfl hS hin rfl rfl rfl fun a s d=>?_
 have d:=((d.addE h5).addE (e:=a1r s1.length s1) b1D).addE h10
 refine sz0 1 s rfl fun a s=>?_
 refine wp_seq (sz0 3 s rfl fun a s=>?_)
 refine cd s u rfl (fun u=>?_) fun u=>?_
 ·refine sz0 2 s rfl fun a s=>?_
  obtain rfl:=oi u
  exact wp_ret (j6 (rt s rfl (d.ret ⟨p2,k3,c4,rfl,(d.outs [0] (by decide) rfl),(d.envAt 2 rfl)⟩)))
 refine sk (wp_seq (sz0 1 s rfl fun a s=>?_))
 refine wp_block (u7 (fun sv825 a w=>∃ Sv1365,Sl 66 [(0,sl p2 k3 s1),(1,.func (.func g7) f8.toArray cp9.toArray),(5,iv sv825)] a∧Wd ⟨w0,S0,I8 [.row p2 s1.length k3 c4 56 12]⟩ Sv1365 [.row p2 s1.length k3 c4 56 12] [a9G Tryz.prog g7 f8 cp9 eq6,l7 c4 s1,a1r s1.length s1] w) 1 u ⟨S0,wj s d [0] [0,2,1]⟩ ?_)
 repeat clear u
 rintro sv825 a w tv1636 ⟨Sv1365,s,d⟩ u hd1635
 refine wp_seq (sz0 4 s rfl fun a s=>?_)
 refine cd s u rfl (fun u=>?_) fun u=>?_
 ·refine sk (wp_seq (wp_block (wp_seq ?_)))
  obtain ⟨x1909,h1907,u⟩:=bt u
  obtain ⟨b1916,q1913,c1914,h1917,h1910,h1911,h1915,h1908⟩:=d.elemRV (α:=Record) 0 rfl 1 rfl h1907
  have hsv1918:=s
  have hwv1919:=d
  subst h1917
  have s:=hsv1918
  have d:=hwv1919
  obtain ⟨_,_,_,_,_,_,_,_,_,_,_,_,rfl,rfl,rfl,rfl,rfl,rfl,rfl,rfl,rfl,rfl,rfl,rfl,⟨p1920,n1921,k1922,rfl,h1923⟩⟩:=h1908
  obtain rfl:=h1923.1
  have d:=d.addE (e:=SlA p1920 _ k1922 x1909.Samples) h1923
  obtain ⟨x1926,h1924,u⟩:=bt u
  obtain ⟨q1930,c1931,h1927,h1928,h1932,h1925⟩:=d.elemRK (α:=Record) 0 rfl 2 rfl h1924
  obtain ⟨_,_,_,_,_,_,_,_,_,_,_,_,rfl,rfl,rfl,rfl,rfl,rfl,rfl,rfl,rfl,rfl,rfl,rfl,⟨p1933,n1934,k1935,rfl,h1936⟩⟩:=h1925
  obtain rfl:=h1936.1
  have d:=d.addE (e:=SlA p1933 _ k1935 x1926.Samples) h1936
  obtain ⟨rv1938,h1937,u⟩:=bt u
  refine A9 (fun a w=>∃ Sv1939,Sl 66 [(0,sl (ad b1916) k3 s1),(1,.func (.func g7) f8.toArray cp9.toArray),(5,iv sv825),(28,.bool rv1938)] a∧Wd ⟨w0,S0,I8 [.row (ad b1916) s1.length k3 c4 56 12]⟩ Sv1939 [.row (ad b1916) s1.length k3 c4 56 12] [a9G Tryz.prog g7 f8 cp9 eq6,l7 c4 s1,a1r s1.length s1] w) ?_ ?_
  ·refine h_c [0] [] d rfl rfl (by kernel_rfl) rfl fun hC d=>?_
   refine gn 3 [0,1,2] [] s hC rfl rfl rfl fun a s=>?_
   refine gx s 3 rfl trivial rfl hC runUnderlying28 sizeOf56 rfl rfl h1910 h1911 fun a s=>?_
   refine gv s 4 rfl rfl hC (fun w hC=>I1 (j:=0) (hC.ownAt 0 rfl) rfl isAgg56 sizeOf56 h1915 rfl rfl) fun a s=>?_
   refine gn 3 [5,6,7] [] s hC rfl rfl rfl fun a s=>?_
   refine gx s 8 rfl trivial rfl hC runUnderlying28 sizeOf56 rfl rfl h1927 h1928 fun a s=>?_
   refine gv s 9 rfl rfl hC (fun w hC=>I1 (j:=0) (hC.ownAt 0 rfl) rfl isAgg56 sizeOf56 h1932 rfl rfl) fun a s=>?_
   refine ho 10 rfl ?_
   refine x9 s ((d.bE 2 rfl).2 a4B.rfl' d.bdom ⟨_,_,_,_,_,_,_,_,_,_,_,_,rfl,rfl,rfl,rfl,rfl,rfl,rfl,rfl,rfl,rfl,rfl,rfl,⟨_,_,_,rfl,d.bE 1 rfl⟩⟩ ⟨_,_,_,_,_,_,_,_,_,_,_,_,rfl,rfl,rfl,rfl,rfl,rfl,rfl,rfl,rfl,rfl,rfl,rfl,⟨_,_,_,rfl,d.bE 0 rfl⟩⟩ h1937) (a5j (d.bE 2 rfl).1 rfl rfl) trivial rfl rfl ?_
   rintro v1943 Sv1940 w a h1941 rfl s
   have d:=d.callB h1941
   refine h_n [0] [] d rfl rfl fun hC=>?_
   refine y7 (by kernel_rfl) ?_
   exact ⟨Sv1365,wj s d [0] [2,3,4]⟩
  rintro a w ⟨Sv1939,s,d⟩
  refine tn (cd s u rfl (fun u=>?_) fun u=>?_)
  ·refine sn0 2 s rfl fun a s=>?_
   obtain ⟨l2182,h2178,u⟩:=bt u
   obtain ⟨o2180,k2181,h2179⟩:=b2o (α:=Record) d 0 rfl h2178
   refine sv s (a4E runUnderlying28 sizeOf56 rfl ⟨_,rfl⟩ (by exact rfl) h2179) rfl fun a s=>?_
   refine rz0 1 s rfl fun a s=>?_
   refine wp_seq (sz0 1 s rfl fun a s=>?_)
   obtain ⟨e2392,h2581,u⟩:=bt u
   refine q8 (fun a w=>∃ c2393 Sv2394,Sl 66 [(0,sl (ad b1916) k3 e2392.1),(5,iv e2392.2)] a∧Wd ⟨w0,S0,I8 [.row (ad b1916) s1.length k3 c4 56 12]⟩ Sv2394 [.row (ad b1916) e2392.1.length k3 c2393 56 12] [l7 c2393 e2392.1,a1r s1.length e2392.1] w) ?_ ?_
   ·refine wp_block (u7 (fun sv2183 a w=>∃ c2320 Sv2321,Sl 66 [(0,sl (ad b1916) k3 sv2183.1),(1,.func (.func g7) f8.toArray cp9.toArray),(5,iv sv2183.2.1),(6,sl (some ⟨b1916,o2180,none⟩) k2181 l2182),(7,iv sv2183.2.2)] a∧Wd ⟨w0,S0,I8 [.row (ad b1916) s1.length k3 c4 56 12]⟩ Sv2321 [.row (ad b1916) sv2183.1.length k3 c2320 56 12] [a9G Tryz.prog g7 f8 cp9 eq6,l7 c2320 sv2183.1,a1r s1.length sv2183.1] w) (s1,sv825,1) h2581 ⟨c4,Sv1939,wj s d [0] [0,1,2]⟩ ?_)
    clear h2581
    repeat clear u
    rintro sv2183 a w tv2390 ⟨c2320,Sv2321,s,d⟩ u hd2389
    refine wp_seq (sz0 4 s rfl fun a s=>?_)
    refine cd s u rfl (fun u=>?_) fun u=>?_
    ·refine sk (wp_seq (wp_block (wp_seq ?_)))
     obtain ⟨x2468,h2461,u⟩:=bt u
     obtain ⟨q2466,c2467,h2463,h2464,h2465,h2462⟩:=d.elemLK (α:=Record) 0 rfl 1 rfl h2179 h2461
     obtain ⟨_,_,_,_,_,_,_,_,_,_,_,_,rfl,rfl,rfl,rfl,rfl,rfl,rfl,rfl,rfl,rfl,rfl,rfl,⟨p2469,n2470,k2471,rfl,h2472⟩⟩:=h2462
     obtain rfl:=h2472.1
     have d:=d.addE (e:=SlA p2469 _ k2471 x2468.Samples) h2472
     obtain ⟨x2480,h2473,u⟩:=bt u
     obtain ⟨q2478,c2479,h2475,h2476,h2477,h2474⟩:=d.elemLK (α:=Record) 0 rfl 2 rfl h2179 h2473
     obtain ⟨_,_,_,_,_,_,_,_,_,_,_,_,rfl,rfl,rfl,rfl,rfl,rfl,rfl,rfl,rfl,rfl,rfl,rfl,⟨p2481,n2482,k2483,rfl,h2484⟩⟩:=h2474
     obtain rfl:=h2484.1
     have d:=d.addE (e:=SlA p2481 _ k2483 x2480.Samples) h2484
     obtain ⟨rv2486,h2485,u⟩:=bt u
     refine A9 (fun a w=>∃ Sv2487,Sl 66 [(0,sl (ad b1916) k3 sv2183.1),(1,.func (.func g7) f8.toArray cp9.toArray),(5,iv sv2183.2.1),(6,sl (some ⟨b1916,o2180,none⟩) k2181 l2182),(7,iv sv2183.2.2),(49,.bool (!rv2486))] a∧Wd ⟨w0,S0,I8 [.row (ad b1916) s1.length k3 c4 56 12]⟩ Sv2487 [.row (ad b1916) sv2183.1.length k3 c2320 56 12] [a9G Tryz.prog g7 f8 cp9 eq6,l7 c2320 sv2183.1,a1r s1.length sv2183.1] w) ?_ ?_
     ·refine h_c [0] [] d rfl rfl (by kernel_rfl) rfl fun hC d=>?_
      refine gn 3 [0,1,2] [] s hC rfl rfl rfl fun a s=>?_
      refine gx s 3 rfl trivial rfl hC runUnderlying28 sizeOf56 rfl rfl h2463 h2464 fun a s=>?_
      refine gv s 4 rfl rfl hC (fun w hC=>I1 (j:=0) (hC.ownAt 0 rfl) rfl isAgg56 sizeOf56 h2465 rfl rfl) fun a s=>?_
      refine gn 3 [5,6,7] [] s hC rfl rfl rfl fun a s=>?_
      refine gx s 8 rfl trivial rfl hC runUnderlying28 sizeOf56 rfl rfl h2475 h2476 fun a s=>?_
      refine gv s 9 rfl rfl hC (fun w hC=>I1 (j:=0) (hC.ownAt 0 rfl) rfl isAgg56 sizeOf56 h2477 rfl rfl) fun a s=>?_
      refine ho 10 rfl ?_
      refine x9 s ((d.bE 2 rfl).2 a4B.rfl' d.bdom ⟨_,_,_,_,_,_,_,_,_,_,_,_,rfl,rfl,rfl,rfl,rfl,rfl,rfl,rfl,rfl,rfl,rfl,rfl,⟨_,_,_,rfl,d.bE 1 rfl⟩⟩ ⟨_,_,_,_,_,_,_,_,_,_,_,_,rfl,rfl,rfl,rfl,rfl,rfl,rfl,rfl,rfl,rfl,rfl,rfl,⟨_,_,_,rfl,d.bE 0 rfl⟩⟩ h2485) (a5j (d.bE 2 rfl).1 rfl rfl) trivial rfl rfl ?_
      rintro v2491 Sv2488 w a h2489 rfl s
      have d:=d.callB h2489
      refine h_n [0] [] d rfl rfl fun hC=>?_
      refine gv s 11 rfl rfl hC (fun w hC=>a9k rfl) fun a s=>?_
      refine y7 (by kernel_rfl) ?_
      exact ⟨Sv2321,wj s d [0] [2,3,4]⟩
     rintro a w ⟨Sv2487,s,d⟩
     refine tn (q8 (fun a w=>∃ (sv2527:(List Record)) (k2528:Int) (c2525 Sv2526:_),L8 sv2183 sv2527 k2528=some tv2390∧Sl 66 [(0,sl (ad b1916) k3 sv2527),(1,.func (.func g7) f8.toArray cp9.toArray),(5,iv k2528),(6,sl (some ⟨b1916,o2180,none⟩) k2181 l2182),(7,iv sv2183.2.2)] a∧Wd ⟨w0,S0,I8 [.row (ad b1916) s1.length k3 c4 56 12]⟩ Sv2526 [.row (ad b1916) sv2527.length k3 c2525 56 12] [a9G Tryz.prog g7 f8 cp9 eq6,l7 c2525 sv2527,a1r s1.length sv2527] w) ?_ ?_)
     ·refine cd s u rfl (fun u=>?_) fun u=>?_
      ·refine sn0 4 s rfl fun a s=>?_
       obtain ⟨x2539,h2532,u⟩:=bt u
       obtain ⟨q2537,c2538,h2534,h2535,h2536,h2533⟩:=d.elemLK (α:=Record) 0 rfl 1 rfl h2179 h2532
       obtain ⟨_,_,_,_,_,_,_,_,_,_,_,_,rfl,rfl,rfl,rfl,rfl,rfl,rfl,rfl,rfl,rfl,rfl,rfl,⟨p2540,n2541,k2542,rfl,h2543⟩⟩:=h2533
       obtain rfl:=h2543.1
       have d:=d.addE (e:=SlA p2540 _ k2542 x2539.Samples) h2543
       refine sv s (o6 runUnderlying28 sizeOf56 rfl rfl h2534.1 h2534.2 h2535) rfl fun a s=>?_
       refine sv s (I1 (j:=0) (d.ownAt 0 rfl) rfl isAgg56 sizeOf56 h2536 rfl rfl) rfl fun a s=>?_
       obtain ⟨x2546,h2544,u⟩:=bt u
       obtain ⟨q2550,c2551,h2547,h2548,h2552,h2545⟩:=d.elemRK (α:=Record) 0 rfl 2 rfl h2544
       obtain ⟨_,_,_,_,_,_,_,_,_,_,_,_,rfl,rfl,rfl,rfl,rfl,rfl,rfl,rfl,rfl,rfl,rfl,rfl,⟨p2553,n2554,k2555,rfl,h2556⟩⟩:=h2545
       obtain rfl:=h2556.1
       have d:=d.addE (e:=SlA p2553 _ k2555 x2546.Samples) h2556
       refine sv s (o6 runUnderlying28 sizeOf56 rfl rfl h2547.1 h2547.2 h2548) rfl fun a s=>?_
       obtain ⟨l2558,h2557,u⟩:=bt u
       have h2561:=d.envAt 4 rfl
       refine a2M (α:=Record) s d 0 rfl 3 rfl h2548 rfl rfl sizeOf56 rfl h2557 ⟨_,_,_,_,_,_,_,_,_,_,_,_,rfl,rfl,rfl,rfl,rfl,rfl,rfl,rfl,rfl,rfl,rfl,rfl,⟨_,_,_,rfl,d.envAt 1 rfl⟩⟩ trivial ?_
       intro c2559 a w s d
       have d:=d.addE (e:=a1r s1.length l2558) (b3u (w:=w) (S:=S0) h2561 h2557)
       have h2560:=Y0 h2557
       try have s:=s.fl 0 rfl h2560
       try have s:=s.fl 50 rfl h2560
       refine nl (wp_region_lit (rn0 2 s rfl fun a s=>?_))
       obtain ⟨k2563,h2562,u⟩:=bt u
       refine sv s (o8 rfl h2562) rfl fun a s=>?_
       exact nl ⟨l2558,k2563,c2559,Sv2487,u,wj s d [0] [4,1,0]⟩
      exact sk ⟨sv2183.1,sv2183.2.1,c2320,Sv2487,u,wj s d [0] [0,1,2]⟩
     rintro a w ⟨sv2527,k2528,c2525,Sv2526,u,s,d⟩
     refine l8 (tn (wp_region_lit (rn0 2 s rfl fun a s=>?_)))
     obtain ⟨k2_2530,h2529,u⟩:=bt u
     refine sv s (o8 rfl h2529) rfl fun a s=>?_
     exact nl ⟨_,io u,c2525,Sv2526,wj s d [0] [0,1,2]⟩
    refine wp_exit (j5 (j5 (o9 ?_)))
    obtain rfl:=oi u
    have h2564:=hd2389 _ rfl
    subst h2564
    exact tn ⟨c2320,Sv2321,wj s d [0] [1,2]⟩
   rintro a w ⟨c2393,Sv2394,s,d⟩
   refine tn (sn0 2 s rfl fun a s=>?_)
   obtain ⟨l2569,h2565,u⟩:=bt u
   obtain ⟨p2567,k2568,h2566⟩:=a5h (α:=Record) d 0 rfl h2565
   refine sv s (a4E runUnderlying28 sizeOf56 rfl ⟨_,rfl⟩ (by exact rfl) h2566) rfl fun a s=>?_
   obtain ⟨l2570,h2571,u⟩:=bt u
   have h2576:=d.envAt 1 rfl
   refine b3U (α:=Record) (z0:=E127_0) s d 0 rfl 0 rfl a9F ⟨_,_,_,_,_,_,_,_,_,_,_,_,rfl,rfl,rfl,rfl,rfl,rfl,rfl,rfl,rfl,rfl,rfl,rfl,⟨none,0,0,rfl,a2i⟩⟩ h2565 h2566 rfl trivial ?_
   intro c2572 a w s d
   rw [Option.some.inj h2571] at d
   have d:=d.addE (e:=a1r s1.length l2570) (by have q:=b1T (w:=w) (S:=S0) (S':=S0) (w':=w) (ys:=List.replicate l2569.length E127_0) h2576 h2565;rw [Option.some.inj h2571] at q;exact q)
   have h2573:=(a5M h2565 h2571)
   try have s:=s.fl 0 rfl h2573
   try have s:=s.fl 59 rfl h2573
   refine nl (sn0 2 s rfl fun a s=>?_)
   obtain ⟨l2579,h2577,u⟩:=bt u
   obtain ⟨d,h2578⟩:=w_cut d 0 rfl 1 rfl h2577
   refine sv s (a4E runUnderlying28 sizeOf56 rfl (by exact rfl) ⟨_,rfl⟩ h2578) rfl fun a s=>?_
   refine rz0 1 s rfl fun a s=>?_
   obtain rfl:=oi u
   have h2580:=hd1635 _ rfl
   subst h2580
   exact wp_ret (A8 (j6 (j6 (A8 (j6 (rt s rfl (d.ret ⟨(ad b1916),k3,(c2572.take (l2579.length * 12)),rfl,(d.outs [0] (by decide) rfl),(d.envAt 0 rfl)⟩)))))))
  refine wp_skip (l8 (tn (wp_region_lit (rn0 2 s rfl fun a s=>?_))))
  obtain ⟨k2583,h2582,u⟩:=bt u
  refine sv s (o8 rfl h2582) rfl fun a s=>?_
  exact nl ⟨_,io u,Sv1939,wj s d [0] [0,1,2]⟩
 obtain ⟨rv2584,u,h2585⟩:=a0x u
 have h2585:=(hd1635 _ h2585.symm).symm
 subst h2585
 refine wp_exit (j5 (j5 (o9 (tn (sz0 2 s rfl fun a s=>?_)))))
 obtain rfl:=oi u
 exact q1 s rfl (d.ret ⟨p2,k3,c4,rfl,(d.outs [0] (by decide) rfl),(d.envAt 1 rfl)⟩)
theorem a6T {w0 S0 p2 k3 p6 k7 s1_1 s2_5 r} (u:a0w s1_1 s2_5=some r) (hS:Dm S0 w0) (h4:(Sq p2 k3 s1_1).p S0 w0) (h8:(Sq p6 k7 s2_5).p S0 w0):Ck Tryz.prog 157 #[sl p2 k3 s1_1,sl p6 k7 s2_5] w0 S0 [] u6 r:=by
 refine en 26 func157 rfl hS rfl rfl rfl fun a s d=>?_
 have d:=(d.addE h4).addE h8
 refine sz0 1 s rfl fun a s=>?_
 refine wp_seq (sz0 5 s rfl fun a s=>?_)
 refine cd s u rfl (fun u=>?_) fun u=>?_
 ·refine sz0 1 s rfl fun a s=>?_
  obtain rfl:=oi u
  exact wp_ret (j6 (rt s rfl (d.ret rfl)))
 refine sk (wp_seq (sz0 3 s rfl fun a s=>?_))
 refine wp_block (u7 (fun sv103 a w=>∃ Sv163,Sl 26 [(0,sl p2 k3 s1_1),(1,sl p6 k7 s2_5),(12,iv (s1_1.length:Int)),(13,iv sv103)] a∧Wd ⟨w0,S0,[]⟩ Sv163 [] [Sq p2 k3 s1_1,Sq p6 k7 s2_5] w) 0 u ⟨S0,wj s d [] [1,0]⟩ ?_)
 repeat clear u
 rintro sv103 a w tv194 ⟨Sv163,s,d⟩ u hd193
 refine sz0 1 s rfl fun a s=>?_
 refine wp_seq (cd s u rfl (fun u=>?_) fun u=>?_)
 ·refine sk (wp_seq (wp_block (sz0 2 s rfl fun a s=>?_)))
  refine wp_seq ?_
  obtain ⟨x229,h227,u⟩:=bt u
  obtain ⟨b235,o236,q233,c234,h237,h230,h231,h232,h228⟩:=d.elemV 0 rfl h227
  have hsv238:=s
  have hwv239:=d
  subst h237
  have s:=hsv238
  have d:=hwv239
  obtain ⟨_,rfl,rfl⟩:=h228
  have d:=d.addE h232
  obtain ⟨x242,h240,u⟩:=bt u
  obtain ⟨b248,o249,q246,c247,h250,h243,h244,h245,h241⟩:=d.elemV 2 rfl h240
  have hsv251:=s
  have hwv252:=d
  subst h250
  have s:=hsv251
  have d:=hwv252
  obtain ⟨_,rfl,rfl⟩:=h241
  have d:=d.addE h245
  refine A9 (fun a w=>∃ Sv253,Sl 26 [(0,sl (some ⟨b235,o236,none⟩) k3 s1_1),(1,sl (some ⟨b248,o249,none⟩) k7 s2_5),(12,iv (s1_1.length:Int)),(13,iv sv103),(24,.bool (x229 != x242))] a∧Wd ⟨w0,S0,[]⟩ Sv253 [] [Sq (some ⟨b235,o236,none⟩) k3 s1_1,Sq (some ⟨b248,o249,none⟩) k7 s2_5] w) ?_ ?_
  ·refine h_c [] [0,1] d rfl rfl (by kernel_rfl) rfl fun hC d=>?_
   refine gn 2 [0,1] [] s hC rfl rfl rfl fun a s=>?_
   refine gx s 2 rfl trivial rfl hC runUnderlying22 sizeOf3 rfl rfl h230 h231 fun a s=>?_
   refine gv s 3 rfl rfl hC (fun w hC=>C8 (j:=0) (hC.ceAt 1 rfl) rfl isAgg3 rfl) fun a s=>?_
   refine gn 2 [4,5] [] s hC rfl rfl rfl fun a s=>?_
   refine gx s 6 rfl trivial rfl hC runUnderlying22 sizeOf3 rfl rfl h243 h244 fun a s=>?_
   refine gv s 7 rfl rfl hC (fun w hC=>C8 (j:=0) (hC.ceAt 0 rfl) rfl isAgg3 rfl) fun a s=>?_
   refine gv s 8 rfl rfl hC (fun w hC=>a7u rfl rfl) fun a s=>?_
   refine y7 (by kernel_rfl) ?_
   exact ⟨Sv163,wj s d [] [2,3]⟩
  rintro a w ⟨Sv253,s,d⟩
  refine tn (cd s u rfl (fun u=>?_) fun u=>?_)
  ·refine sz0 1 s rfl fun a s=>?_
   obtain rfl:=oi u
   have h256:=hd193 _ rfl
   subst h256
   exact wp_ret (A8 (j6 (j6 (A8 (j6 (rt s rfl (d.ret rfl)))))))
  refine wp_skip (l8 (tn (wp_region_lit (rz0 2 s rfl fun a s=>?_))))
  exact ⟨_,io u,Sv253,wj s d [] [0,1]⟩
 obtain ⟨rv257,u,h258⟩:=a0x u
 have h258:=(hd193 _ h258.symm).symm
 subst h258
 refine wp_exit (j5 (j5 (o9 (tn (sz0 1 s rfl fun a s=>?_)))))
 obtain rfl:=oi u
 exact q1 s rfl (d.ret rfl)
theorem b2e {w0 S0 p2 k3 p6 k7 a1 b5 r} (u:a1t a1 b5=some r) (hS:Dm S0 w0) (h4:(Sq p2 k3 a1.Samples).p S0 w0) (h8:(Sq p6 k7 b5.Samples).p S0 w0):Ck Tryz.prog 128 #[V56 a1 p2 k3,V56 b5 p6 k7] w0 S0 [] u6 r:=by
 refine en 59 func128 rfl hS rfl rfl rfl fun a s d=>?_
 have d:=(d.addE h4).addE h8
 refine sr (wb (C56 a1 p2 k3) s d rfl fun b9 a w s d=>?_)
 refine wb (C56 b5 p6 k7) s d rfl fun b10 a w s d=>?_
 refine rz0 1 s rfl fun a s=>?_
 refine sn 4 [1,0] s d rfl rfl fun a s=>?_
 refine sv s (b2x (by kernel_rfl) rfl rfl (R4 runUnderlying52 (by kernel_rfl) (EqF.cons1 rfl isAgg9 rfl rfl (a3G runUnderlying9) (EqF.cons1 rfl isAgg9 rfl rfl (a3G runUnderlying9) (EqF.cons1 rfl isAgg9 rfl rfl (a3G runUnderlying9) (EqF.cons1 rfl isAgg9 rfl rfl (a3G runUnderlying9) EqF.nil)))))) rfl fun a s=>?_
 refine mv s rfl rfl fun a s=>?_
 refine rA 6 10 [1,0] s d rfl rfl rfl rfl rfl fun a s=>?_
 refine mv s rfl rfl fun a s=>?_
 refine rA 6 17 [1,0] s d rfl rfl rfl rfl rfl fun a s=>?_
 refine mv s rfl rfl fun a s=>?_
 refine C7 6 (fun a w1=>w=w1∧Sl 59 [(2,pt b9),(3,pt b10),(30,.bool (((((a1.Source.Network == b5.Source.Network) && ((a1.Source.Station == b5.Source.Station) && ((a1.Source.Location == b5.Source.Location) && ((a1.Source.Channel == b5.Source.Channel) && true)))) && (a1.Start == b5.Start)) && (a1.First == b5.First)) && ((a1.Rate.Num == b5.Rate.Num) && ((a1.Rate.Den == b5.Rate.Den) && true))))] a) ?_ ?_
 ·rcases Bool.eq_false_or_eq_true ((((a1.Source.Network == b5.Source.Network) && ((a1.Source.Station == b5.Source.Station) && ((a1.Source.Location == b5.Source.Location) && ((a1.Source.Channel == b5.Source.Channel) && true)))) && (a1.Start == b5.Start)) && (a1.First == b5.First)) with h13 | h13
  ·have s:=s.bT 24 rfl h13
   refine rn 4 [1,0] s d rfl rfl fun a s=>?_
   refine I6 s (b2x (by kernel_rfl) rfl rfl (R4 runUnderlying54 (by kernel_rfl) (EqF.cons1 rfl isAgg3 rfl rfl (Q6 runUnderlying3) (EqF.cons1 rfl isAgg3 rfl rfl (Q6 runUnderlying3) EqF.nil)))) ⟨_,rfl,rfl⟩ rfl rfl fun a s=>?_
   refine rz0 1 s rfl fun a s=>?_
   exact ⟨rfl,(s.fix 30 (.bool (((((a1.Source.Network == b5.Source.Network) && ((a1.Source.Station == b5.Source.Station) && ((a1.Source.Location == b5.Source.Location) && ((a1.Source.Channel == b5.Source.Channel) && true)))) && (a1.Start == b5.Start)) && (a1.First == b5.First)) && ((a1.Rate.Num == b5.Rate.Num) && ((a1.Rate.Den == b5.Rate.Den) && true)))) rfl (and_t h13)).weaken _ ⟨rfl,rfl,rfl,trivial⟩⟩
  have s:=s.bF 24 rfl h13
  refine rz0 6 s rfl fun a s=>?_
  exact ⟨rfl,(s.fix 30 (.bool (((((a1.Source.Network == b5.Source.Network) && ((a1.Source.Station == b5.Source.Station) && ((a1.Source.Location == b5.Source.Location) && ((a1.Source.Channel == b5.Source.Channel) && true)))) && (a1.Start == b5.Start)) && (a1.First == b5.First)) && ((a1.Rate.Num == b5.Rate.Num) && ((a1.Rate.Den == b5.Rate.Den) && true)))) rfl (and_f h13)).weaken _ ⟨rfl,rfl,rfl,trivial⟩⟩
 rintro a w1 ⟨h34,s⟩
 subst h34
 refine mv s rfl rfl fun a s=>?_
 refine rA 6 31 [1,0] s d rfl rfl rfl rfl rfl fun a s=>?_
 refine mv s rfl rfl fun a s=>?_
 refine rA 6 38 [1,0] s d rfl rfl rfl rfl rfl fun a s=>?_
 refine mv s rfl rfl fun a s=>?_
 refine rA 6 45 [1,0] s d rfl rfl rfl rfl rfl fun a s=>?_
 refine mv s rfl rfl fun a s=>?_
 obtain ⟨c25,hc25,u⟩:=bt u
 refine C7 6 (fun a w=>∃ Sv26,Sl 59 [(58,.bool c25)] a∧Wd ⟨w0,S0,[]⟩ Sv26 [] [] w) ?_ ?_
 ·rcases Bool.eq_false_or_eq_true ((((((((a1.Source.Network == b5.Source.Network) && ((a1.Source.Station == b5.Source.Station) && ((a1.Source.Location == b5.Source.Location) && ((a1.Source.Channel == b5.Source.Channel) && true)))) && (a1.Start == b5.Start)) && (a1.First == b5.First)) && ((a1.Rate.Num == b5.Rate.Num) && ((a1.Rate.Den == b5.Rate.Den) && true))) && (a1.Error == b5.Error)) && (a1.Run == b5.Run)) && (a1.Seq == b5.Seq)) with h24 | h24
  ·have s:=s.bT 52 rfl h24
   have u:=E9 hc25 h24
   refine rn 4 [1,0] s d rfl rfl fun a s=>?_
   obtain ⟨rv28,h27,u⟩:=bt u
   refine x9 s (a6T h27 d.bdom (d.bE 1 rfl) (d.bE 0 rfl)) (j3 call157 rfl) ⟨_,rfl,rfl⟩ rfl rfl ?_
   rintro v32 Sv29 w a h30 rfl s
   have d:=d.callB h30
   refine sv s (X4 rfl rfl) rfl fun a s=>?_
   refine wpList_nil ?_
   obtain rfl:=oi u
   exact tn ⟨S0,wj s d [] []⟩
  have s:=s.bF 52 rfl h24
  have u:=F7 hc25 h24
  refine rn0 6 s rfl fun a s=>?_
  refine wpList_nil ?_
  obtain rfl:=oi u
  exact tn ⟨S0,wj s d [] []⟩
 rintro a w ⟨Sv26,s,d⟩
 refine rz0 1 s rfl fun a s=>?_
 obtain rfl:=oi u
 exact q1 s rfl (d.ret rfl)
theorem b2d (S0:Nat→Prop) (w0:World):(a9G Tryz.prog 128 [] [] a1t).p S0 w0:=by
  refine ⟨call128,?_⟩
  rintro S1 w1 hk hS c0 c1 x0 x1 r1 ⟨_,_,_,_,_,_,_,_,_,_,_,_,rfl,rfl,rfl,rfl,rfl,rfl,rfl,rfl,rfl,rfl,rfl,rfl,⟨_,_,_,rfl,e0⟩⟩ h1 hf
  obtain ⟨_,_,_,_,_,_,_,_,_,_,_,_,rfl,rfl,rfl,rfl,rfl,rfl,rfl,rfl,rfl,rfl,rfl,rfl,⟨_,_,_,rfl,e1⟩⟩:=h1
  obtain rfl:=e0.1
  obtain rfl:=e1.1
  exact b2e hf hS e0 e1
theorem a6Z {w0 S0 p2 k3 l1 r} (u:a3r l1=some r) (hS:Dm S0 w0) (h4:(Sq p2 k3 l1).p S0 w0):Ck Tryz.prog 89 #[sl p2 k3 l1] w0 S0 [] F3 r:=by
 refine en 27 func89 rfl hS rfl rfl rfl fun a s d=>?_
 have d:=d.addE h4
 refine sz0 1 s rfl fun a s=>?_
 refine sn0 1 s rfl fun a s=>?_
 obtain ⟨rv6,h5,u⟩:=bt u
 refine cR s (a2H h5 d.dom (d.envAt 0 rfl)) (j3 call124 rfl) rfl ?_
 rintro v14 Sv11 w a h12 ⟨p7,k8,c10,rfl,h15,h9⟩ s
 have d:=(d.callN h12 h15).addE (e:=l7 c10 rv6) h9
 refine rz0 1 s rfl fun a s=>?_
 refine wp_seq (sz0 3 s rfl fun a s=>?_)
 obtain ⟨e169,h292,u⟩:=bt u
 refine q8 (fun a w=>∃ c170 p171 k172 Sv173,Sl 27 [(3,sl p171 k172 e169)] a∧Wd ⟨w0,S0,[]⟩ Sv173 [.row p171 e169.length k172 c170 56 12] [l7 c170 e169] w) ?_ ?_
 ·refine wp_block (u7 (fun sv16 a w=>∃ c115 p116 k117 Sv118,Sl 27 [(3,sl p116 k117 sv16.1),(8,iv (rv6.length:Int)),(9,iv sv16.2)] a∧Wd ⟨w0,S0,[]⟩ Sv118 [.row p116 sv16.1.length k117 c115 56 12] [l7 c115 sv16.1] w) (rv6,0) h292 ⟨c10,p7,k8,Sv11,wj s d [0] [0]⟩ ?_)
  clear h292
  repeat clear u
  rintro sv16 a w tv167 ⟨c115,p116,k117,Sv118,s,d⟩ u hd166
  refine sz0 1 s rfl fun a s=>?_
  refine wp_seq (cd s u rfl (fun u=>?_) fun u=>?_)
  ·refine sk (wp_seq (wp_block (sz0 2 s rfl fun a s=>?_)))
   refine wp_region_lit (rn0 4 s rfl fun a s=>?_)
   obtain ⟨x224,h222,u⟩:=bt u
   obtain ⟨b231,q228,c229,h232,h225,h226,h230,h223⟩:=d.elemRV (α:=Record) 0 rfl 0 rfl h222
   have hsv233:=s
   have hwv234:=d
   subst h232
   have s:=hsv233
   have d:=hwv234
   obtain ⟨_,_,_,_,_,_,_,_,_,_,_,_,rfl,rfl,rfl,rfl,rfl,rfl,rfl,rfl,rfl,rfl,rfl,rfl,⟨p235,n236,k237,rfl,h238⟩⟩:=h223
   obtain rfl:=h238.1
   have d:=d.addE (e:=SlA p235 _ k237 x224.Samples) h238
   refine sv s (o6 runUnderlying28 sizeOf56 rfl rfl h225.1 h225.2 h226) rfl fun a s=>?_
   refine sv s (l5 (o':=q228+11) runUnderlying56 rfl sizeOf22 rfl rfl rfl) rfl fun a s=>?_
   refine sv s (A7 (j:=11) (d.ownAt 0 rfl) rfl isAgg22 h230 rfl) rfl fun a s=>?_
   obtain ⟨rv240,h239,u⟩:=bt u
   refine cR s (a0Y h239 d.dom (d.envAt 0 rfl)) (j3 call66 rfl) rfl ?_
   rintro v248 Sv245 w a h246 ⟨p241,k242,c244,rfl,h249,h243⟩ s
   have d:=(d.callN h246 h249).addE (e:=l7 c244 rv240) h243
   obtain ⟨x252,h250,u⟩:=bt u
   obtain ⟨q256,c257,h253,h254,h258,h251⟩:=d.elemRK (α:=Record) 1 rfl 2 rfl h250
   obtain ⟨_,_,_,_,_,_,_,_,_,_,_,_,rfl,rfl,rfl,rfl,rfl,rfl,rfl,rfl,rfl,rfl,rfl,rfl,⟨p259,n260,k261,rfl,h262⟩⟩:=h251
   obtain rfl:=h262.1
   have d:=d.addE (e:=SlA p259 _ k261 x252.Samples) h262
   refine sv s (o6 runUnderlying28 sizeOf56 rfl rfl h253.1 h253.2 h254) rfl fun a s=>?_
   refine sv s (l5 (o':=q256+11) runUnderlying56 rfl sizeOf22 rfl rfl rfl) rfl fun a s=>?_
   obtain ⟨l264,h263,u⟩:=bt u
   obtain ⟨Sv267,d⟩:=D6 (α:=Int) d 0 rfl 1 rfl
   refine a7s (α:=Record) (f:=11) (m:=1) s d 0 rfl 4 rfl h254 rfl rfl sizeOf22 rfl rfl rfl h263 (fun es he=>by rw [h258] at he;subst he;exact ⟨_,_,_,_,_,_,_,_,_,_,_,_,rfl,rfl,rfl,rfl,rfl,rfl,rfl,rfl,rfl,rfl,rfl,rfl,⟨_,_,_,rfl,d.envAt 0 rfl⟩⟩) trivial ?_
   intro c265 a w s d
   have h266:=Y0 h263
   try have s:=s.fl 3 rfl h266
   try have s:=s.fl 12 rfl h266
   try have s:=s.fl 14 rfl h266
   refine wpList_nil ?_
   refine l8 (tn (wp_region_lit (rz0 2 s rfl fun a s=>?_)))
   exact ⟨_,io u,c265,(ad b231),k117,Sv267,wj s d [0] [0]⟩
  refine wp_exit (j5 (j5 (o9 ?_)))
  obtain rfl:=oi u
  have h268:=hd166 _ rfl
  subst h268
  exact tn ⟨c115,p116,k117,Sv118,wj s d [0] [0]⟩
 rintro a w ⟨c170,p171,k172,Sv173,s,d⟩
 refine tn (sn0 1 s rfl fun a s=>?_)
 obtain ⟨rv270,h269,u⟩:=bt u
 refine cR s (U1 h269 d.dom (d.ins [0] (by decide) rfl) (d.envAt 0 rfl) (a6z _ _)) (j3 call125 rfl) rfl ?_
 rintro v277 Sv274 w a h275 ⟨c271,rfl,h278,h272,h273⟩ s
 have d:=(d.callO [0] [] (by decide) rfl h275 h278).addE (e:=l7 c271 rv270) h272
 have h279:=h273
 have h280:=Eq.symm h279
 try have s:=s.fl 3 rfl h280
 try have s:=s.fl 23 rfl h280
 refine nl (sn0 1 s rfl fun a s=>?_)
 obtain ⟨rv282,h281,u⟩:=bt u
 refine cR s (a1m h281 d.dom (d.ins [0] (by decide) rfl) (d.envAt 0 rfl) (b2d _ _)) (j3 call127 rfl) rfl ?_
 rintro v290 Sv287 w a h288 ⟨p283,k284,c286,rfl,h291,h285⟩ s
 have d:=(d.callO [0] [] (by decide) rfl h288 h291).addE (e:=l7 c286 rv282) h285
 refine rz0 1 s rfl fun a s=>?_
 obtain rfl:=oi u
 exact q1 s rfl (d.ret ⟨p283,k284,c286,rfl,(d.outs [0] (by decide) rfl),(d.envAt 0 rfl)⟩)
abbrev a2N (w0:World) (X:List Nat) (r:((List Record) × Int)):Rd:=fun S w v=>∃ p0_0 k0_0 c0_0,v=.tuple #[sl p0_0 k0_0 r.1,iv r.2]∧Outs X w0 S w [.row p0_0 r.1.length k0_0 c0_0 56 12]∧(l7 c0_0 r.1).p S w
theorem a6Y {w0 S0 p2 k3 l1 r} (u:a0U l1=some r) (hS:Dm S0 w0) (h4:(Sq p2 k3 l1).p S0 w0):Ck Tryz.prog 51 #[sl p2 k3 l1] w0 S0 [] a2N r:=by
 refine en 9 func51 rfl hS rfl rfl rfl fun a s d=>?_
 have d:=d.addE h4
 refine sz0 2 s rfl fun a s=>?_
 refine wp_seq (sn0 1 s rfl fun a s=>?_)
 obtain ⟨rv6,h5,u⟩:=bt u
 refine cV s d (a2O h5 d.bdom (d.bE 0 rfl)) (j3 call86 rfl) rfl fun a w s d=>?_
 refine rz0 1 s rfl fun a s=>?_
 refine cd s u rfl (fun u=>?_) fun u=>?_
 ·refine sz0 2 s rfl fun a s=>?_
  obtain rfl:=oi u
  have d:=d.nilRow Record 56
  exact wp_ret (j6 (Q8 s rfl (q9 rfl) (q9 rfl) (d.ret ⟨none,0,[],rfl,(d.outs [0] (by decide) rfl),(d.envAt 0 rfl)⟩)))
 refine sk (sn0 1 s rfl fun a s=>?_)
 obtain ⟨rv15,h14,u⟩:=bt u
 refine cR s (a6Z h14 d.dom (d.envAt 0 rfl)) (j3 call89 rfl) rfl ?_
 rintro v23 Sv20 w a h21 ⟨p16,k17,c19,rfl,h24,h18⟩ s
 have d:=(d.callN h21 h24).addE (e:=l7 c19 rv15) h18
 refine rz0 2 s rfl fun a s=>?_
 obtain rfl:=oi u
 exact wp_ret (Q8 s rfl (q9 rfl) (q9 rfl) (d.ret ⟨p16,k17,c19,rfl,(d.outs [0] (by decide) rfl),(d.envAt 0 rfl)⟩))
theorem a2S {w0 S0 p2 k3 r1 i5 r} (u:a0V r1 i5=some r) (hS:Dm S0 w0) (h4:(Sq p2 k3 r1.Samples).p S0 w0):Ck Tryz.prog 90 #[V56 r1 p2 k3,iv i5] w0 S0 [] j4 r:=by
 refine en 20 func90 rfl hS rfl rfl rfl fun a s d=>?_
 have d:=d.addE h4
 refine sr (wb (C56 r1 p2 k3) s d rfl fun b6 a w s d=>?_)
 refine rz0 1 s rfl fun a s=>?_
 refine sn 8 [0,0,0] s d rfl rfl fun a s=>?_
 obtain ⟨rv8,h7,u⟩:=bt u
 refine cV s d (a2W h7 d.bdom) (j3 call94 rfl) rfl fun a w s d=>?_
 refine rz0 5 s rfl fun a s=>?_
 refine sz0 2 s rfl fun a s=>?_
 obtain rfl:=oi u
 exact q1 s rfl (d.ret rfl)
end Go.Proofs.YtdcafiefjakfeaaGreat.Wk
namespace Go.Proofs
open Go Go.Shelf Go.RowKit Go.Lib Go.Sort
def Tryz.sort91_ren:Go.Shelf.Ren:=⟨fun | 5=>91 | 8=>130 | 7=>129 | 19=>167 | 20=>168 | 10=>158 | 11=>159 | 12=>160 | 13=>161 | 14=>162 | 15=>163 | 16=>164 | 17=>165 | 18=>166 | 30=>194 | 31=>195 | 32=>196 | 33=>197 | 34=>198 | 35=>151 | 40=>206 | n=>n,fun | 23=>22 | 25=>3 | 3=>3 | 32=>146 | 22=>22 | 0=>0 | 44=>172 | 46=>174 | 4=>4 | 36=>166 | 35=>165 | 41=>44 | 5=>5 | 9=>9 | 53=>191 | 57=>195 | 63=>202 | 64=>203 | n=>n,fun | n=>n⟩
theorem Tryz.sort91:Go.Proofs.SlLaysM.n5 Tryz.prog Tryz.sort91_ren where
  mixed:=by kernel_rfl
  f5:=⟨Tryz.f91.name,by decide,Tryz.func91.trans (congrArg some (by kernel_rfl))⟩
  f7:=⟨Tryz.f129.name,by decide,Tryz.func129.trans (congrArg some (by kernel_rfl))⟩
  f8:=Tryz.func130.trans (congrArg some (by kernel_rfl))
  f10:=⟨Tryz.f158.name,by decide,Tryz.func158.trans (congrArg some (by kernel_rfl))⟩
  f11:=⟨Tryz.f159.name,by decide,Tryz.func159.trans (congrArg some (by kernel_rfl))⟩
  f12:=⟨Tryz.f160.name,by decide,Tryz.func160.trans (congrArg some (by kernel_rfl))⟩
  f13:=⟨Tryz.f161.name,by decide,Tryz.func161.trans (congrArg some (by kernel_rfl))⟩
  f14:=⟨Tryz.f162.name,by decide,Tryz.func162.trans (congrArg some (by kernel_rfl))⟩
  f15:=⟨Tryz.f163.name,by decide,Tryz.func163.trans (congrArg some (by kernel_rfl))⟩
  f16:=⟨Tryz.f164.name,by decide,Tryz.func164.trans (congrArg some (by kernel_rfl))⟩
  f17:=⟨Tryz.f165.name,by decide,Tryz.func165.trans (congrArg some (by kernel_rfl))⟩
  f18:=⟨Tryz.f166.name,by decide,Tryz.func166.trans (congrArg some (by kernel_rfl))⟩
  f19:=Tryz.func167.trans (congrArg some (by kernel_rfl))
  f20:=Tryz.func168.trans (congrArg some (by kernel_rfl))
  f30:=⟨Tryz.f194.name,by decide,Tryz.func194.trans (congrArg some (by kernel_rfl))⟩
  f31:=Tryz.func195.trans (congrArg some (by kernel_rfl))
  f32:=Tryz.func196.trans (congrArg some (by kernel_rfl))
  f33:=⟨Tryz.f197.name,by decide,Tryz.func197.trans (congrArg some (by kernel_rfl))⟩
  f34:=⟨Tryz.f198.name,by decide,Tryz.func198.trans (congrArg some (by kernel_rfl))⟩
  f35:=⟨Tryz.f151.name,by decide,Tryz.func151.trans (congrArg some (by kernel_rfl))⟩
  f40:=⟨Tryz.f206.name,by decide,Tryz.func206.trans (congrArg some (by kernel_rfl))⟩
  t0:=Tryz.underlying0
  a0:=Tryz.isAgg0
  z0:=Tryz.sizeOf0
  v0:=Tryz.zeroValue0
  t3:=Tryz.underlying3
  a3:=Tryz.isAgg3
  z3:=Tryz.sizeOf3
  v3:=Tryz.zeroValue3
  t4:=Tryz.underlying4
  a4:=Tryz.isAgg4
  z4:=Tryz.sizeOf4
  v4:=Tryz.zeroValue4
  t5:=Tryz.underlying5
  a5:=Tryz.isAgg5
  z5:=Tryz.sizeOf5
  v5:=Tryz.zeroValue5
  t9:=Tryz.underlying9
  a9:=Tryz.isAgg9
  z9:=Tryz.sizeOf9
  v9:=Tryz.zeroValue9
  t22:=Tryz.underlying22
  a22:=Tryz.isAgg22
  z22:=Tryz.sizeOf22
  v22:=Tryz.zeroValue22
  t23:=Tryz.underlying22
  a23:=Tryz.isAgg22
  z23:=Tryz.sizeOf22
  v23:=Tryz.zeroValue22
  t25:=Tryz.underlying3
  a25:=Tryz.isAgg3
  z25:=Tryz.sizeOf3
  v25:=Tryz.zeroValue3
  t32:=Tryz.underlying146
  a32:=Tryz.isAgg146
  z32:=Tryz.sizeOf146
  v32:=Tryz.zeroValue146
  t35:=Tryz.underlying165
  a35:=Tryz.isAgg165
  z35:=Tryz.sizeOf165
  v35:=Tryz.zeroValue165
  t36:=Tryz.underlying166
  a36:=Tryz.isAgg166
  z36:=Tryz.sizeOf166
  v36:=Tryz.zeroValue166
  t41:=Tryz.underlying44
  a41:=Tryz.isAgg44
  z41:=Tryz.sizeOf44
  v41:=Tryz.zeroValue44
  t44:=Tryz.underlying172
  a44:=Tryz.isAgg172
  z44:=Tryz.sizeOf172
  v44:=Tryz.zeroValue172
  t46:=Tryz.underlying174
  a46:=Tryz.isAgg174
  z46:=Tryz.sizeOf174
  v46:=Tryz.zeroValue174
  t53:=Tryz.underlying191
  a53:=Tryz.isAgg191
  z53:=Tryz.sizeOf191
  v53:=Tryz.zeroValue191
  t57:=Tryz.underlying195
  a57:=Tryz.isAgg195
  z57:=Tryz.sizeOf195
  v57:=Tryz.zeroValue195
  t63:=Tryz.underlying202
  a63:=Tryz.isAgg202
  z63:=Tryz.sizeOf202
  v63:=Tryz.zeroValue202
  t64:=Tryz.underlying203
  a64:=Tryz.isAgg203
  z64:=Tryz.sizeOf203
  v64:=Tryz.zeroValue203
end Go.Proofs
namespace Go.Proofs.YtdcafiefjakfeaaGreat.Wk
open Go Go.RowKit Go.Proofs Go.Proofs.YtdcafiefjakfeaaGreat.Sh Go.Proofs.Tryz
set_option linter.unusedVariables false
set_option linter.unusedSimpArgs false
abbrev a7p (w0:World) (X:List Nat) (p2:Option Addr) (k3:Nat) (x1:(List Int)) (r:(List Int)):(Nat→Prop)→World→Value→Prop:=fun S w v=>∃ ck_0,v=.tuple #[]∧Outs X w0 S w [.row p2 r.length k3 ck_0 3 1]∧(l7 ck_0 r).p S w∧(a1r x1.length r).p S w
theorem a7o {w0 S0 p2 k3 c4 x1 r} (u:a0R x1=some r) (hS:Dm S0 w0) (hin:Ins S0 w0 [.row p2 x1.length k3 c4 3 1]) (h5:(l7 c4 x1).p S0 w0):Calls Tryz.prog 91 #[sl p2 k3 x1] w0 (Ret (I8 [.row p2 x1.length k3 c4 3 1]) w0 S0 (a7p w0 (I8 [.row p2 x1.length k3 c4 3 1]) p2 k3 x1 r)):=by
 exact sort_int (T:=3) Tryz.sort91 u hS hin h5
theorem a6h {w0 S0 p2 k3 c4 s1 r} (u:Y7 s1=some r) (hS:Dm S0 w0) (hin:Ins S0 w0 [.row p2 s1.length k3 c4 3 1]) (h5:(l7 c4 s1).p S0 w0):Ck Tryz.prog 92 #[sl p2 k3 s1] w0 S0 (I8 [.row p2 s1.length k3 c4 3 1]) K3 r:=by
 refine enI 61 func92 rfl hS hin rfl rfl rfl fun a s d=>?_
 have d:=(d.addE h5).addE (e:=a1r s1.length s1) b1D
 refine sz0 1 s rfl fun a s=>?_
 refine wp_seq (sz0 3 s rfl fun a s=>?_)
 refine cd s u rfl (fun u=>?_) fun u=>?_
 ·refine sz0 2 s rfl fun a s=>?_
  obtain rfl:=oi u
  exact wp_ret (j6 (rt s rfl (d.ret ⟨p2,k3,c4,rfl,(d.outs [0] (by decide) rfl),(d.envAt 1 rfl)⟩)))
 refine sk (wp_seq (sz0 1 s rfl fun a s=>?_))
 refine wp_block (u7 (fun sv628 a w=>∃ Sv1040,Sl 61 [(0,sl p2 k3 s1),(3,iv sv628)] a∧Wd ⟨w0,S0,I8 [.row p2 s1.length k3 c4 3 1]⟩ Sv1040 [.row p2 s1.length k3 c4 3 1] [l7 c4 s1,a1r s1.length s1] w) 1 u ⟨S0,wj s d [0] [1,0]⟩ ?_)
 repeat clear u
 rintro sv628 a w tv1247 ⟨Sv1040,s,d⟩ u hd1246
 refine wp_seq (sz0 4 s rfl fun a s=>?_)
 refine cd s u rfl (fun u=>?_) fun u=>?_
 ·refine sk (wp_seq (wp_block (wp_seq ?_)))
  obtain ⟨x1456,h1454,u⟩:=bt u
  obtain ⟨b1463,q1460,c1461,h1464,h1457,h1458,h1462,h1455⟩:=d.elemRV (α:=Int) 0 rfl 0 rfl h1454
  have hsv1465:=s
  have hwv1466:=d
  subst h1464
  have s:=hsv1465
  have d:=hwv1466
  obtain ⟨_,rfl,rfl⟩:=h1455
  obtain ⟨x1469,h1467,u⟩:=bt u
  obtain ⟨q1473,c1474,h1470,h1471,h1475,h1468⟩:=d.elemRK (α:=Int) 0 rfl 0 rfl h1467
  obtain ⟨_,rfl,rfl⟩:=h1468
  refine A9 (fun a w=>∃ Sv1476,Sl 61 [(0,sl (ad b1463) k3 s1),(3,iv sv628),(25,.bool (x1456 == x1469))] a∧Wd ⟨w0,S0,I8 [.row (ad b1463) s1.length k3 c4 3 1]⟩ Sv1476 [.row (ad b1463) s1.length k3 c4 3 1] [l7 c4 s1,a1r s1.length s1] w) ?_ ?_
  ·refine h_c [0] [] d rfl rfl (by kernel_rfl) rfl fun hC d=>?_
   refine gn 2 [0,1] [] s hC rfl rfl rfl fun a s=>?_
   refine gx s 2 rfl trivial rfl hC runUnderlying22 sizeOf3 rfl rfl h1457 h1458 fun a s=>?_
   refine gv s 3 rfl rfl hC (fun w hC=>A7 (j:=0) (hC.ownAt 0 rfl) rfl isAgg3 h1462 rfl) fun a s=>?_
   refine gn 3 [4,5,6] [] s hC rfl rfl rfl fun a s=>?_
   refine gx s 7 rfl trivial rfl hC runUnderlying22 sizeOf3 rfl rfl h1470 h1471 fun a s=>?_
   refine gv s 8 rfl rfl hC (fun w hC=>A7 (j:=0) (hC.ownAt 0 rfl) rfl isAgg3 h1475 rfl) fun a s=>?_
   refine gv s 9 rfl rfl hC (fun w hC=>b4T rfl rfl) fun a s=>?_
   refine y7 (by kernel_rfl) ?_
   exact ⟨Sv1040,wj s d [0] [0,1]⟩
  rintro a w ⟨Sv1476,s,d⟩
  refine tn (cd s u rfl (fun u=>?_) fun u=>?_)
  ·refine sn0 2 s rfl fun a s=>?_
   obtain ⟨l1661,h1657,u⟩:=bt u
   obtain ⟨o1659,k1660,h1658⟩:=b2o (α:=Int) d 0 rfl h1657
   refine sv s (a4E runUnderlying22 sizeOf3 rfl ⟨_,rfl⟩ (by exact rfl) h1658) rfl fun a s=>?_
   refine rz0 1 s rfl fun a s=>?_
   refine wp_seq (sz0 1 s rfl fun a s=>?_)
   obtain ⟨e1817,h1958,u⟩:=bt u
   refine q8 (fun a w=>∃ c1818 Sv1819,Sl 61 [(0,sl (ad b1463) k3 e1817.1),(3,iv e1817.2)] a∧Wd ⟨w0,S0,I8 [.row (ad b1463) s1.length k3 c4 3 1]⟩ Sv1819 [.row (ad b1463) e1817.1.length k3 c1818 3 1] [l7 c1818 e1817.1,a1r s1.length e1817.1] w) ?_ ?_
   ·refine wp_block (u7 (fun sv1662 a w=>∃ c1763 Sv1764,Sl 61 [(0,sl (ad b1463) k3 sv1662.1),(3,iv sv1662.2.1),(4,sl (some ⟨b1463,o1659,none⟩) k1660 l1661),(5,iv sv1662.2.2)] a∧Wd ⟨w0,S0,I8 [.row (ad b1463) s1.length k3 c4 3 1]⟩ Sv1764 [.row (ad b1463) sv1662.1.length k3 c1763 3 1] [l7 c1763 sv1662.1,a1r s1.length sv1662.1] w) (s1,sv628,1) h1958 ⟨c4,Sv1476,wj s d [0] [0,1]⟩ ?_)
    clear h1958
    repeat clear u
    rintro sv1662 a w tv1815 ⟨c1763,Sv1764,s,d⟩ u hd1814
    refine wp_seq (sz0 4 s rfl fun a s=>?_)
    refine cd s u rfl (fun u=>?_) fun u=>?_
    ·refine sk (wp_seq (wp_block (wp_seq ?_)))
     obtain ⟨x1875,h1868,u⟩:=bt u
     obtain ⟨q1873,c1874,h1870,h1871,h1872,h1869⟩:=d.elemLK (α:=Int) 0 rfl 0 rfl h1658 h1868
     obtain ⟨_,rfl,rfl⟩:=h1869
     obtain ⟨x1883,h1876,u⟩:=bt u
     obtain ⟨q1881,c1882,h1878,h1879,h1880,h1877⟩:=d.elemLK (α:=Int) 0 rfl 0 rfl h1658 h1876
     obtain ⟨_,rfl,rfl⟩:=h1877
     refine A9 (fun a w=>∃ Sv1884,Sl 61 [(0,sl (ad b1463) k3 sv1662.1),(3,iv sv1662.2.1),(4,sl (some ⟨b1463,o1659,none⟩) k1660 l1661),(5,iv sv1662.2.2),(44,.bool (x1875 != x1883))] a∧Wd ⟨w0,S0,I8 [.row (ad b1463) s1.length k3 c4 3 1]⟩ Sv1884 [.row (ad b1463) sv1662.1.length k3 c1763 3 1] [l7 c1763 sv1662.1,a1r s1.length sv1662.1] w) ?_ ?_
     ·refine h_c [0] [] d rfl rfl (by kernel_rfl) rfl fun hC d=>?_
      refine gn 2 [0,1] [] s hC rfl rfl rfl fun a s=>?_
      refine gx s 2 rfl trivial rfl hC runUnderlying22 sizeOf3 rfl rfl h1870 h1871 fun a s=>?_
      refine gv s 3 rfl rfl hC (fun w hC=>A7 (j:=0) (hC.ownAt 0 rfl) rfl isAgg3 h1872 rfl) fun a s=>?_
      refine gn 3 [4,5,6] [] s hC rfl rfl rfl fun a s=>?_
      refine gx s 7 rfl trivial rfl hC runUnderlying22 sizeOf3 rfl rfl h1878 h1879 fun a s=>?_
      refine gv s 8 rfl rfl hC (fun w hC=>A7 (j:=0) (hC.ownAt 0 rfl) rfl isAgg3 h1880 rfl) fun a s=>?_
      refine gv s 9 rfl rfl hC (fun w hC=>a7u rfl rfl) fun a s=>?_
      refine y7 (by kernel_rfl) ?_
      exact ⟨Sv1764,wj s d [0] [0,1]⟩
     rintro a w ⟨Sv1884,s,d⟩
     refine tn (q8 (fun a w=>∃ (sv1912:(List Int)) (k1913:Int) (c1910 Sv1911:_),a0q sv1662 sv1912 k1913=some tv1815∧Sl 61 [(0,sl (ad b1463) k3 sv1912),(3,iv k1913),(4,sl (some ⟨b1463,o1659,none⟩) k1660 l1661),(5,iv sv1662.2.2)] a∧Wd ⟨w0,S0,I8 [.row (ad b1463) s1.length k3 c4 3 1]⟩ Sv1911 [.row (ad b1463) sv1912.length k3 c1910 3 1] [l7 c1910 sv1912,a1r s1.length sv1912] w) ?_ ?_)
     ·refine cd s u rfl (fun u=>?_) fun u=>?_
      ·refine sn0 4 s rfl fun a s=>?_
       obtain ⟨x1924,h1917,u⟩:=bt u
       obtain ⟨q1922,c1923,h1919,h1920,h1921,h1918⟩:=d.elemLK (α:=Int) 0 rfl 0 rfl h1658 h1917
       obtain ⟨_,rfl,rfl⟩:=h1918
       refine sv s (o6 runUnderlying22 sizeOf3 rfl rfl h1919.1 h1919.2 h1920) rfl fun a s=>?_
       refine sv s (A7 (j:=0) (d.ownAt 0 rfl) rfl isAgg3 h1921 rfl) rfl fun a s=>?_
       obtain ⟨x1927,h1925,u⟩:=bt u
       obtain ⟨q1931,c1932,h1928,h1929,h1933,h1926⟩:=d.elemRK (α:=Int) 0 rfl 0 rfl h1925
       obtain ⟨_,rfl,rfl⟩:=h1926
       refine sv s (o6 runUnderlying22 sizeOf3 rfl rfl h1928.1 h1928.2 h1929) rfl fun a s=>?_
       obtain ⟨l1935,h1934,u⟩:=bt u
       have h1938:=d.envAt 1 rfl
       refine a2M (α:=Int) s d 0 rfl 0 rfl h1929 rfl rfl sizeOf3 rfl h1934 ⟨_,rfl,rfl⟩ trivial ?_
       intro c1936 a w s d
       have d:=d.addE (e:=a1r s1.length l1935) (b3u (w:=w) (S:=S0) h1938 h1934)
       have h1937:=Y0 h1934
       try have s:=s.fl 0 rfl h1937
       try have s:=s.fl 45 rfl h1937
       refine nl (wp_region_lit (rn0 2 s rfl fun a s=>?_))
       obtain ⟨k1940,h1939,u⟩:=bt u
       refine sv s (o8 rfl h1939) rfl fun a s=>?_
       exact nl ⟨l1935,k1940,c1936,Sv1884,u,wj s d [0] [1,0]⟩
      exact sk ⟨sv1662.1,sv1662.2.1,c1763,Sv1884,u,wj s d [0] [0,1]⟩
     rintro a w ⟨sv1912,k1913,c1910,Sv1911,u,s,d⟩
     refine l8 (tn (wp_region_lit (rn0 2 s rfl fun a s=>?_)))
     obtain ⟨k2_1915,h1914,u⟩:=bt u
     refine sv s (o8 rfl h1914) rfl fun a s=>?_
     exact nl ⟨_,io u,c1910,Sv1911,wj s d [0] [0,1]⟩
    refine wp_exit (j5 (j5 (o9 ?_)))
    obtain rfl:=oi u
    have h1941:=hd1814 _ rfl
    subst h1941
    exact tn ⟨c1763,Sv1764,wj s d [0] [0,1]⟩
   rintro a w ⟨c1818,Sv1819,s,d⟩
   refine tn (sn0 2 s rfl fun a s=>?_)
   obtain ⟨l1946,h1942,u⟩:=bt u
   obtain ⟨p1944,k1945,h1943⟩:=a5h (α:=Int) d 0 rfl h1942
   refine sv s (a4E runUnderlying22 sizeOf3 rfl ⟨_,rfl⟩ (by exact rfl) h1943) rfl fun a s=>?_
   obtain ⟨l1947,h1948,u⟩:=bt u
   have h1953:=d.envAt 1 rfl
   refine b3U (α:=Int) (z0:=(0:Int)) s d 0 rfl 0 rfl S9 ⟨_,rfl,rfl⟩ h1942 h1943 rfl trivial ?_
   intro c1949 a w s d
   rw [Option.some.inj h1948] at d
   have d:=d.addE (e:=a1r s1.length l1947) (by have q:=b1T (w:=w) (S:=S0) (S':=S0) (w':=w) (ys:=List.replicate l1946.length (0:Int)) h1953 h1942;rw [Option.some.inj h1948] at q;exact q)
   have h1950:=(a5M h1942 h1948)
   try have s:=s.fl 0 rfl h1950
   try have s:=s.fl 54 rfl h1950
   refine nl (sn0 2 s rfl fun a s=>?_)
   obtain ⟨l1956,h1954,u⟩:=bt u
   obtain ⟨d,h1955⟩:=w_cut d 0 rfl 1 rfl h1954
   refine sv s (a4E runUnderlying22 sizeOf3 rfl (by exact rfl) ⟨_,rfl⟩ h1955) rfl fun a s=>?_
   refine rz0 1 s rfl fun a s=>?_
   obtain rfl:=oi u
   have h1957:=hd1246 _ rfl
   subst h1957
   exact wp_ret (A8 (j6 (j6 (A8 (j6 (rt s rfl (d.ret ⟨(ad b1463),k3,(c1949.take (l1956.length * 1)),rfl,(d.outs [0] (by decide) rfl),(d.envAt 0 rfl)⟩)))))))
  refine wp_skip (l8 (tn (wp_region_lit (rn0 2 s rfl fun a s=>?_))))
  obtain ⟨k1960,h1959,u⟩:=bt u
  refine sv s (o8 rfl h1959) rfl fun a s=>?_
  exact nl ⟨_,io u,Sv1476,wj s d [0] [0,1]⟩
 obtain ⟨rv1961,u,h1962⟩:=a0x u
 have h1962:=(hd1246 _ h1962.symm).symm
 subst h1962
 refine wp_exit (j5 (j5 (o9 (tn (sz0 2 s rfl fun a s=>?_)))))
 obtain rfl:=oi u
 exact q1 s rfl (d.ret ⟨p2,k3,c4,rfl,(d.outs [0] (by decide) rfl),(d.envAt 0 rfl)⟩)
theorem a8b {w0 S0 p2 k3 l1 from5 to6 r} (u:a1B l1 from5 to6=some r) (hS:Dm S0 w0) (h4:(Sq p2 k3 l1).p S0 w0):Ck Tryz.prog 52 #[sl p2 k3 l1,iv from5,iv to6] w0 S0 [] K3 r:=by
 refine en 49 func52 rfl hS rfl rfl rfl fun a s d=>?_
 have d:=d.addE h4
 refine sz0 1 s rfl fun a s=>?_
 refine sn0 2 s rfl fun a s=>?_
 refine o7 (α:=Int) (vs:=[iv from5,iv to6]) (cs:=[iv from5,iv to6]) (xs:=([from5,to6]:List Int)) s d S9 rfl rfl rfl rfl rfl rfl ⟨⟨_,rfl,rfl⟩,⟨⟨_,rfl,rfl⟩,rfl⟩⟩ rfl trivial rfl fun b8 a w s d=>?_
 refine rz0 1 s rfl fun a s=>?_
 refine wp_seq (sz0 3 s rfl fun a s=>?_)
 obtain ⟨e327,h614,u⟩:=bt u
 refine q8 (fun a w=>∃ c328 p329 k330 Sv331,Sl 49 [(7,sl p329 k330 e327)] a∧Wd ⟨w0,S0,[]⟩ Sv331 [.row p329 e327.length k330 c328 3 1] [l7 c328 e327] w) ?_ ?_
 ·refine wp_block (u7 (fun sv9 a w=>∃ c218 p219 k220 Sv221,Sl 49 [(1,iv from5),(2,iv to6),(7,sl p219 k220 sv9.1),(15,sl p2 k3 l1),(16,iv (l1.length:Int)),(17,iv sv9.2)] a∧Wd ⟨w0,S0,[]⟩ Sv221 [.row p219 sv9.1.length k220 c218 3 1] [Sq p2 k3 l1,l7 c218 sv9.1] w) (([from5,to6]:List Int),0) h614 ⟨[iv from5,iv to6],(ad b8),([from5,to6]:List Int).length,S0,wj s d [0] [1,0]⟩ ?_)
  clear h614
  repeat clear u
  rintro sv9 a w tv325 ⟨c218,p219,k220,Sv221,s,d⟩ u hd324
  refine sz0 1 s rfl fun a s=>?_
  refine wp_seq (cd s u rfl (fun u=>?_) fun u=>?_)
  ·refine sk (wp_seq (wp_block (sr ?_)))
   obtain ⟨x437,h435,u⟩:=bt u
   obtain ⟨b443,o444,q441,c442,h445,h438,h439,h440,h436⟩:=d.elemV 0 rfl h435
   have hsv446:=s
   have hwv447:=d
   subst h445
   have s:=hsv446
   have d:=hwv447
   obtain ⟨_,_,_,_,_,_,_,_,_,_,_,_,rfl,rfl,rfl,rfl,rfl,rfl,rfl,rfl,rfl,rfl,rfl,rfl,⟨p448,n449,k450,rfl,h451⟩⟩:=h436
   obtain rfl:=h451.1
   have d:=(d.addE (e:=SlA p448 _ k450 x437.Samples) h451).addE h440
   refine sv s (o6 runUnderlying28 sizeOf56 rfl rfl h438.1 h438.2 h439) rfl fun a s=>?_
   refine sv s (G5 (j:=0) (d.ceAt 0 rfl) rfl isAgg56 sizeOf56 rfl rfl) rfl fun a s=>?_
   refine wa Z0 s d zeroValue56 fun b452 a w s d=>?_
   refine ws (C56 x437 p448 k450) s d 0 rfl rfl rfl sizeOf56 fun a w s d=>?_
   refine nl (sz 5 [0] s d rfl rfl fun a s=>?_)
   obtain ⟨e531,h589,u⟩:=bt u
   refine q8 (fun a w=>∃ c532 p533 k534 Sv535,Sl 49 [(1,iv from5),(2,iv to6),(7,sl p533 k534 e531),(15,sl (some ⟨b443,o444,none⟩) k3 l1),(16,iv (l1.length:Int)),(17,iv sv9.2)] a∧Wd ⟨w0,S0,[]⟩ Sv535 [.row p533 e531.length k534 c532 3 1] [Sq (some ⟨b443,o444,none⟩) k3 l1,l7 c532 e531] w) ?_ ?_
   ·refine wp_block (u7 (fun sv453 a w=>∃ c502 p503 k504 Sv505,Sl 49 [(1,iv from5),(2,iv to6),(7,sl p503 k504 sv453.1),(9,pt b452),(15,sl (some ⟨b443,o444,none⟩) k3 l1),(16,iv (l1.length:Int)),(17,iv sv9.2),(24,iv (w64 ((x437.Samples.length:Int)+1))),(25,iv sv453.2)] a∧Wd ⟨w0,S0,[]⟩ Sv505 [.box b452 (C56 x437 p448 k450) 56,.row p503 sv453.1.length k504 c502 3 1] [Sq (some ⟨b443,o444,none⟩) k3 l1,Sq p448 k450 x437.Samples,l7 c502 sv453.1] w) (sv9.1,0) h589 ⟨c218,p219,k220,Sv221,wj s d [0,1] [2,1,3]⟩ ?_)
    clear h589
    repeat clear u
    rintro sv453 a w tv529 ⟨c502,p503,k504,Sv505,s,d⟩ u hd528
    refine sz0 1 s rfl fun a s=>?_
    refine wp_seq (cd s u rfl (fun u=>?_) fun u=>?_)
    ·refine sk (wp_seq (wp_block (sz0 2 s rfl fun a s=>?_)))
     refine sn 2 [0] s d rfl rfl fun a s=>?_
     obtain ⟨rv560,h559,u⟩:=bt u
     refine cV s d (a2S h559 d.bdom (d.bE 1 rfl)) (j3 call90 rfl) rfl fun a w s d=>?_
     refine rz0 1 s rfl fun a s=>?_
     refine sn0 4 s rfl fun a s=>?_
     refine rA 4 34 [] s d rfl rfl rfl rfl rfl fun a s=>?_
     refine nl (q8 (fun a w=>∃ (out579:(List Int)) (c575 p576 k577 Sv578:_),a0t sv453 out579=some tv529∧Sl 49 [(1,iv from5),(2,iv to6),(7,sl p576 k577 out579),(9,pt b452),(15,sl (some ⟨b443,o444,none⟩) k3 l1),(16,iv (l1.length:Int)),(17,iv sv9.2),(24,iv (w64 ((x437.Samples.length:Int)+1))),(25,iv sv453.2)] a∧Wd ⟨w0,S0,[]⟩ Sv578 [.box b452 (C56 x437 p448 k450) 56,.row p576 out579.length k577 c575 3 1] [Sq (some ⟨b443,o444,none⟩) k3 l1,Sq p448 k450 x437.Samples,l7 c575 out579] w) ?_ ?_)
     ·refine cd s u rfl (fun u=>?_) fun u=>?_
      ·refine wp_region_lit (rn0 2 s rfl fun a s=>?_)
       refine o7 (α:=Int) (vs:=[iv rv560]) (cs:=[iv rv560]) (xs:=([rv560]:List Int)) s d S9 rfl rfl rfl rfl rfl rfl ⟨⟨_,rfl,rfl⟩,rfl⟩ rfl trivial rfl fun b582 a w s d=>?_
       obtain ⟨l584,h583,u⟩:=bt u
       refine F4 (α:=Int) s d S9 2 rfl rfl rfl 3 rfl 0 rfl 0 rfl h583 rfl trivial ?_
       intro p585 k586 c587 a w s d
       refine rz0 1 s rfl fun a s=>?_
       exact ⟨l584,c587,p585,k586,Sv505,u,wj s d [1,2] [2,3,0]⟩
      exact sk ⟨sv453.1,c502,p503,k504,Sv505,u,wj s d [0,1] [0,1,2]⟩
     rintro a w ⟨out579,c575,p576,k577,Sv578,u,s,d⟩
     refine l8 (tn (wp_region_lit (rz0 2 s rfl fun a s=>?_)))
     exact ⟨_,io u,c575,p576,k577,Sv578,wj s d [0,1] [0,1,2]⟩
    refine wp_exit (j5 (j5 (o9 ?_)))
    obtain rfl:=oi u
    have h588:=hd528 _ rfl
    subst h588
    exact tn ⟨c502,p503,k504,Sv505,wj s d [1] [0,2]⟩
   rintro a w ⟨c532,p533,k534,Sv535,s,d⟩
   refine l8 (tn (wp_region_lit (rz0 2 s rfl fun a s=>?_)))
   exact ⟨_,io u,c532,p533,k534,Sv535,wj s d [0] [0,1]⟩
  refine wp_exit (j5 (j5 (o9 ?_)))
  obtain rfl:=oi u
  have h590:=hd324 _ rfl
  subst h590
  exact tn ⟨c218,p219,k220,Sv221,wj s d [0] [1]⟩
 rintro a w ⟨c328,p329,k330,Sv331,s,d⟩
 refine tn (sn0 1 s rfl fun a s=>?_)
 obtain ⟨rv592,h591,u⟩:=bt u
 refine cR s (a7o h591 d.dom (d.ins [0] (by decide) rfl) (d.envAt 0 rfl)) (j3 call91 rfl) rfl ?_
 rintro v599 Sv596 w a h597 ⟨c593,rfl,h600,h594,h595⟩ s
 have d:=(d.callO [0] [] (by decide) rfl h597 h600).addE (e:=l7 c593 rv592) h594
 have h601:=h595
 have h602:=Eq.symm h601
 try have s:=s.fl 7 rfl h602
 try have s:=s.fl 45 rfl h602
 refine nl (sn0 1 s rfl fun a s=>?_)
 obtain ⟨rv604,h603,u⟩:=bt u
 refine cR s (a6h h603 d.dom (d.ins [0] (by decide) rfl) (d.envAt 0 rfl)) (j3 call92 rfl) rfl ?_
 rintro v612 Sv609 w a h610 ⟨p605,k606,c608,rfl,h613,h607⟩ s
 have d:=(d.callO [0] [] (by decide) rfl h610 h613).addE (e:=l7 c608 rv604) h607
 refine rz0 1 s rfl fun a s=>?_
 obtain rfl:=oi u
 exact q1 s rfl (d.ret ⟨p605,k606,c608,rfl,(d.outs [0] (by decide) rfl),(d.envAt 0 rfl)⟩)
theorem b2F {w0 S0 start1 r2 t3 r} (u:a7O start1 r2 t3=some r) (hS:Dm S0 w0):Ck Tryz.prog 131 #[iv start1,V54 r2,iv t3] w0 S0 [] j4 r:=by
 refine en 18 func131 rfl hS rfl rfl rfl fun a s d=>?_
 refine sr (wb (C54 r2) s d rfl fun b4 a w s d=>?_)
 refine rz0 1 s rfl fun a s=>?_
 refine wp_seq (sn 1 [0] s d rfl rfl fun a s=>?_)
 obtain ⟨rv6,h5,u⟩:=bt u
 refine cV s d (a9c h5 d.bdom) (j3 call133 rfl) rfl fun a w s d=>?_
 refine rz0 1 s rfl fun a s=>?_
 refine cd s u rfl (fun u=>?_) fun u=>?_
 ·refine sz0 1 s rfl fun a s=>?_
  obtain rfl:=oi u
  exact wp_ret (j6 (rt s rfl (d.ret rfl)))
 refine sk (wp_seq (sn0 1 s rfl fun a s=>?_))
 obtain ⟨rv15,h14,u⟩:=bt u
 refine cV s d (a4I h14 d.bdom) (j3 call134 rfl) rfl fun a w s d=>?_
 refine rn0 2 s rfl fun a s=>?_
 obtain ⟨c29,hc29,u⟩:=bt u
 refine C7 4 (fun a w=>∃ Sv30,Sl 18 [(17,.bool c29)] a∧Wd ⟨w0,S0,[]⟩ Sv30 [] [] w) ?_ ?_
 ·rcases Bool.eq_false_or_eq_true (!rv15) with h28 | h28
  ·have s:=s.bT 13 rfl h28
   have u:=E9 hc29 h28
   refine rn0 4 s rfl fun a s=>?_
   refine wpList_nil ?_
   obtain rfl:=oi u
   exact tn ⟨S0,wj s d [] []⟩
  have s:=s.bF 13 rfl h28
  have u:=F7 hc29 h28
  refine I6 s (O5 rfl) ⟨_,rfl,rfl⟩ rfl rfl fun a s=>?_
  obtain ⟨rv32,h31,u⟩:=bt u
  refine x9 s (a4I h31 d.bdom) (j3 call134 rfl) ⟨_,rfl,rfl⟩ rfl rfl ?_
  rintro v36 Sv33 w a h34 rfl s
  have d:=d.callB h34
  refine rn0 2 s rfl fun a s=>?_
  refine wpList_nil ?_
  obtain rfl:=oi u
  exact tn ⟨S0,wj s d [] []⟩
 rintro a w ⟨Sv30,s,d⟩
 refine nl (cd s u rfl (fun u=>?_) fun u=>?_)
 ·refine sz0 1 s rfl fun a s=>?_
  obtain rfl:=oi u
  exact wp_ret (j6 (rt s rfl (d.ret rfl)))
 refine sk (sz0 1 s rfl fun a s=>?_)
 obtain rfl:=oi u
 exact q1 s rfl (d.ret rfl)
theorem b3D {w0 S0 r1 x2 r} (u:a8L r1 x2=some r) (hS:Dm S0 w0):Ck Tryz.prog 169 #[V54 r1,iv x2] w0 S0 [] j4 r:=by
 refine en 26 func169 rfl hS rfl rfl rfl fun a s d=>?_
 refine sr (wb (C54 r1) s d rfl fun b3 a w s d=>?_)
 refine rz0 1 s rfl fun a s=>?_
 refine sn 1 [0] s d rfl rfl fun a s=>?_
 obtain ⟨rv5,h4,u⟩:=bt u
 refine cV s d (a8s h4 d.bdom) (j3 call171 rfl) rfl fun a w s d=>?_
 refine rz0 1 s rfl fun a s=>?_
 refine wp_seq ?_
 obtain ⟨quo12,h11,u⟩:=bt u
 obtain ⟨rem14,h13,u⟩:=bt u
 obtain ⟨quo16,h15,u⟩:=bt u
 obtain ⟨x18,h17,u⟩:=bt u
 refine A9 (fun a w=>∃ Sv19,Sl 26 [(4,iv x18)] a∧Wd ⟨w0,S0,[]⟩ Sv19 [] [] w) ?_ ?_
 ·refine h_c [0] [] d rfl rfl (by kernel_rfl) rfl fun hC d=>?_
  refine gn 2 [0,1] [] s hC rfl rfl rfl fun a s=>?_
  refine gv s 2 rfl rfl hC (fun w hC=>b0W rfl rfl h11) fun a s=>?_
  refine gn 5 [3,4,5,6,7] [0] s hC rfl rfl rfl fun a s=>?_
  refine gv s 8 rfl rfl hC (fun w hC=>b3Z rfl rfl h13) fun a s=>?_
  refine gn 7 [9,10,11,12,13,14,15] [0] s hC rfl rfl rfl fun a s=>?_
  refine gv s 16 rfl rfl hC (fun w hC=>b0W rfl rfl h15) fun a s=>?_
  refine gv s 17 rfl rfl hC (fun w hC=>a9j rfl rfl) fun a s=>?_
  refine gv s 18 rfl rfl hC (fun w hC=>o8 rfl h17) fun a s=>?_
  refine y7 (by kernel_rfl) ?_
  exact ⟨S0,wj s d [] []⟩
 rintro a w ⟨Sv19,s,d⟩
 refine tn ?_
 obtain rfl:=oi u
 exact q1 s rfl (d.ret rfl)
theorem b3E {w0 S0 r1 x2 r} (u:b0H r1 x2=some r) (hS:Dm S0 w0):Ck Tryz.prog 132 #[V54 r1,iv x2] w0 S0 [] j4 r:=by
 refine en 10 func132 rfl hS rfl rfl rfl fun a s d=>?_
 refine sr (wb (C54 r1) s d rfl fun b3 a w s d=>?_)
 refine rz0 1 s rfl fun a s=>?_
 refine sn 3 [0] s d rfl rfl fun a s=>?_
 obtain ⟨rv5,h4,u⟩:=bt u
 refine cV s d (b3D h4 d.bdom) (j3 call169 rfl) rfl fun a w s d=>?_
 refine sv s (y_sub rfl rfl) rfl fun a s=>?_
 obtain ⟨x12,h11,u⟩:=bt u
 refine sv s (o8 rfl h11) rfl fun a s=>?_
 refine nl ?_
 obtain rfl:=oi u
 exact q1 s rfl (d.ret rfl)
theorem b2C {w0 S0 start1 r2 t3 r} (u:a7L start1 r2 t3=some r) (hS:Dm S0 w0):Ck Tryz.prog 93 #[iv start1,V54 r2,iv t3] w0 S0 [] a7M r:=by
 refine en 25 func93 rfl hS rfl rfl rfl fun a s d=>?_
 refine sr (wb (C54 r2) s d rfl fun b4 a w s d=>?_)
 refine rz0 2 s rfl fun a s=>?_
 refine wp_seq (sn 3 [0] s d rfl rfl fun a s=>?_)
 obtain ⟨rv6,h5,u⟩:=bt u
 refine cV s d (b2F h5 d.bdom) (j3 call131 rfl) rfl fun a w s d=>?_
 refine rz0 1 s rfl fun a s=>?_
 refine sz0 2 s rfl fun a s=>?_
 refine cd s u rfl (fun u=>?_) fun u=>?_
 ·refine sz0 3 s rfl fun a s=>?_
  obtain rfl:=oi u
  exact wp_ret (j6 (Q8 s rfl (q9 rfl) (q9 rfl) (d.ret rfl)))
 refine sk (wp_seq (sz0 3 s rfl fun a s=>?_))
 refine cd s u rfl (fun u=>?_) fun u=>?_
 ·refine sz0 2 s rfl fun a s=>?_
  obtain rfl:=oi u
  exact wp_ret (j6 (Q8 s rfl (q9 rfl) (q9 rfl) (d.ret rfl)))
 refine sk (sn 4 [0] s d rfl rfl fun a s=>?_)
 obtain ⟨rv17,h16,u⟩:=bt u
 refine cV s d (b3E h16 d.bdom) (j3 call132 rfl) rfl fun a w s d=>?_
 refine sv s (y_min rfl rfl) rfl fun a s=>?_
 obtain ⟨x24,h23,u⟩:=bt u
 refine sv s (o8 rfl h23) rfl fun a s=>?_
 refine rz0 1 s rfl fun a s=>?_
 obtain rfl:=oi u
 exact wp_ret (Q8 s rfl (q9 rfl) (q9 rfl) (d.ret rfl))
abbrev a8S (w0:World) (X:List Nat) (r:(Int × Int × Bool)):Rd:=fun S w v=>v=.tuple #[iv r.1,iv r.2.1,.bool r.2.2]
theorem a5z {w0 S0 p2 k3 r1 t5 r} (u:a1e r1 t5=some r) (hS:Dm S0 w0) (h4:(Sq p2 k3 r1.Samples).p S0 w0):Ck Tryz.prog 54 #[V56 r1 p2 k3,iv t5] w0 S0 [] a8S r:=by
 refine en 49 func54 rfl hS rfl rfl rfl fun a s d=>?_
 have d:=d.addE h4
 refine sr (wb (C56 r1 p2 k3) s d rfl fun b6 a w s d=>?_)
 refine rz0 3 s rfl fun a s=>?_
 refine wp_seq (sn 2 [0] s d rfl rfl fun a s=>?_)
 obtain ⟨rv8,h7,u⟩:=bt u
 refine cV s d (a2S h7 d.bdom (d.bE 0 rfl)) (j3 call90 rfl) rfl fun a w s d=>?_
 refine rn0 2 s rfl fun a s=>?_
 obtain ⟨c22,hc22,u⟩:=bt u
 refine C7 8 (fun a w=>∃ Sv23,Sl 49 [(1,iv t5),(2,pt b6),(21,.bool c22)] a∧Wd ⟨w0,S0,[]⟩ Sv23 [.box b6 (C56 r1 p2 k3) 56] [Sq p2 k3 r1.Samples] w) ?_ ?_
 ·rcases Bool.eq_false_or_eq_true (decide (t5<rv8)) with h21 | h21
  ·have s:=s.bT 13 rfl h21
   have u:=E9 hc22 h21
   refine rn0 8 s rfl fun a s=>?_
   refine wpList_nil ?_
   obtain rfl:=oi u
   exact tn ⟨S0,wj s d [0] [0]⟩
  have s:=s.bF 13 rfl h21
  have u:=F7 hc22 h21
  refine rn 5 [0,0] s d rfl rfl fun a s=>?_
  obtain ⟨rv25,h24,u⟩:=bt u
  refine x9 s (a2S h24 d.bdom (d.bE 0 rfl)) (j3 call90 rfl) ⟨_,rfl,rfl⟩ rfl rfl ?_
  rintro v29 Sv26 w a h27 rfl s
  have d:=d.callB h27
  refine rn0 2 s rfl fun a s=>?_
  refine wpList_nil ?_
  obtain rfl:=oi u
  exact tn ⟨S0,wj s d [0] [0]⟩
 rintro a w ⟨Sv23,s,d⟩
 refine nl (cd s u rfl (fun u=>?_) fun u=>?_)
 ·refine sz0 3 s rfl fun a s=>?_
  obtain rfl:=oi u
  exact wp_ret (j6 (ret3 s rfl (q9 rfl) (q9 rfl) (q9 rfl) (d.ret rfl)))
 refine sk (sn 5 [0,0] s d rfl rfl fun a s=>?_)
 obtain ⟨rv34,h33,u⟩:=bt u
 refine cV s d (b2C h33 d.bdom) (j3 call93 rfl) rfl fun a w s d=>?_
 refine rz0 5 s rfl fun a s=>?_
 refine sn 5 [0,0] s d rfl rfl fun a s=>?_
 obtain ⟨rv41,h40,u⟩:=bt u
 refine cV s d (a2W h40 d.bdom) (j3 call94 rfl) rfl fun a w s d=>?_
 refine rz0 4 s rfl fun a s=>?_
 refine wp_seq ?_
 obtain ⟨x49,h47,u⟩:=bt u
 obtain ⟨b55,o56,q53,c54,h57,h50,h51,h52,h48⟩:=d.elemV 0 rfl h47
 have hsv58:=s
 have hwv59:=d
 subst h57
 have s:=hsv58
 have d:=hwv59
 obtain ⟨_,rfl,rfl⟩:=h48
 have d:=d.addE h52
 refine A9 (fun a w=>∃ Sv60,Sl 49 [(4,iv rv41.1),(5,iv x49),(6,.bool true)] a∧Wd ⟨w0,S0,[]⟩ Sv60 [] [] w) ?_ ?_
 ·refine h_c [0] [0] d rfl rfl (by kernel_rfl) rfl fun hC d=>?_
  refine gn 7 [0,1,2,3,4,5,6] [0,0] s hC rfl rfl rfl fun a s=>?_
  refine gx s 7 rfl trivial rfl hC runUnderlying22 sizeOf3 rfl rfl h50 h51 fun a s=>?_
  refine gv s 8 rfl rfl hC (fun w hC=>C8 (j:=0) (hC.ceAt 0 rfl) rfl isAgg3 rfl) fun a s=>?_
  refine gn 3 [9,10,11] [] s hC rfl rfl rfl fun a s=>?_
  refine y7 (by kernel_rfl) ?_
  exact ⟨Sv23,wj s d [] []⟩
 rintro a w ⟨Sv60,s,d⟩
 refine tn ?_
 obtain rfl:=oi u
 exact wp_ret (ret3 s rfl (q9 rfl) (q9 rfl) (q9 rfl) (d.ret rfl))
abbrev a9t (w0:World) (X:List Nat) (r:Continuity_state):Rd:=fun S w v=>v=V93 r
theorem a9s {w0 S0 p2 k3 l1 t5 r} (u:a3E l1 t5=some r) (hS:Dm S0 w0) (h4:(Sq p2 k3 l1).p S0 w0):Ck Tryz.prog 53 #[sl p2 k3 l1,iv t5] w0 S0 [] a9t r:=by
 refine en 53 func53 rfl hS rfl rfl rfl fun a s d=>?_
 have d:=d.addE h4
 refine sr (wa [iv 0,.bool false] s d zeroValue93 fun b6 a w s d=>?_)
 refine nl (sr (sv s (D7 (vs:=[(1,.bool true)]) Bld93 rfl rfl) rfl fun a s=>?_))
 refine wa [iv 0,.bool false] s d zeroValue93 fun b7 a w s d=>?_
 refine ws [iv 0,.bool true] s d 0 rfl rfl rfl sizeOf93 fun a w s d=>?_
 refine nl (sz0 2 s rfl fun a s=>?_)
 refine wp_seq (sz0 3 s rfl fun a s=>?_)
 obtain ⟨e127,h203,u⟩:=bt u
 refine q8 (fun a w=>∃ Sv128,Sl 53 [(4,pt b6),(5,pt b7)] a∧Wd ⟨w0,S0,[]⟩ Sv128 [.box b6 [iv 0,.bool false] 93,.box b7 [iv e127.1,.bool e127.2] 93] [] w) ?_ ?_
 ·refine wp_block (u7 (fun sv8 a w=>∃ Sv85,Sl 53 [(1,iv t5),(4,pt b6),(5,pt b7),(6,iv sv8.2.2.1),(7,iv sv8.2.2.2.1),(14,sl p2 k3 l1),(15,iv (l1.length:Int)),(16,iv sv8.2.2.2.2)] a∧Wd ⟨w0,S0,[]⟩ Sv85 [.box b6 [iv 0,.bool false] 93,.box b7 [iv sv8.1,.bool sv8.2.1] 93] [Sq p2 k3 l1] w) (0,true,0,0,0) h203 ⟨S0,wj s d [1,0] [0]⟩ ?_)
  clear h203
  repeat clear u
  rintro sv8 a w tv125 ⟨Sv85,s,d⟩ u hd124
  refine sz0 1 s rfl fun a s=>?_
  refine wp_seq (cd s u rfl (fun u=>?_) fun u=>?_)
  ·refine sk (wp_seq (q8 (fun a w=>∃ (x164:Int) (x165:Bool) (time166:Int) (value167:Int) (Sv163:_),a0l sv8 x164 x165 time166 value167=some tv125∧Sl 53 [(1,iv t5),(4,pt b6),(5,pt b7),(6,iv time166),(7,iv value167),(14,sl p2 k3 l1),(15,iv (l1.length:Int)),(16,iv sv8.2.2.2.2)] a∧Wd ⟨w0,S0,[]⟩ Sv163 [.box b6 [iv 0,.bool false] 93,.box b7 [iv x164,.bool x165] 93] [Sq p2 k3 l1] w) ?_ ?_))
   ·refine wp_block (sr ?_)
    obtain ⟨x170,h168,u⟩:=bt u
    obtain ⟨b176,o177,q174,c175,h178,h171,h172,h173,h169⟩:=d.elemV 0 rfl h168
    have hsv179:=s
    have hwv180:=d
    subst h178
    have s:=hsv179
    have d:=hwv180
    obtain ⟨_,_,_,_,_,_,_,_,_,_,_,_,rfl,rfl,rfl,rfl,rfl,rfl,rfl,rfl,rfl,rfl,rfl,rfl,⟨p181,n182,k183,rfl,h184⟩⟩:=h169
    obtain rfl:=h184.1
    have d:=(d.addE (e:=SlA p181 _ k183 x170.Samples) h184).addE h173
    refine sv s (o6 runUnderlying28 sizeOf56 rfl rfl h171.1 h171.2 h172) rfl fun a s=>?_
    refine sv s (G5 (j:=0) (d.ceAt 0 rfl) rfl isAgg56 sizeOf56 rfl rfl) rfl fun a s=>?_
    refine wa Z0 s d zeroValue56 fun b185 a w s d=>?_
    refine ws (C56 x170 p181 k183) s d 0 rfl rfl rfl sizeOf56 fun a w s d=>?_
    refine nl (sn 2 [0] s d rfl rfl fun a s=>?_)
    obtain ⟨rv187,h186,u⟩:=bt u
    refine cV s d (a5z h186 d.bdom (d.bE 1 rfl)) (j3 call54 rfl) rfl fun a w s d=>?_
    refine rz0 7 s rfl fun a s=>?_
    refine wp_seq (sz0 2 s rfl fun a s=>?_)
    refine cd s u rfl (fun u=>?_) fun u=>?_
    ·exact wp_exit (j5 (o9 (tn ⟨sv8.1,sv8.2.1,sv8.2.2.1,sv8.2.2.2.1,Sv85,u,wj s d [1,2] [2]⟩)))
    refine sk (wp_seq (sn 4 [2] s d rfl rfl fun a s=>?_))
    refine ws [iv (w64 (sv8.1+1)),.bool sv8.2.1] s d 2 rfl rfl rfl sizeOf3 fun a w s d=>?_
    refine nl (sz 3 [2] s d rfl rfl fun a s=>?_)
    refine q8 (fun a w=>∃ (time197:Int) (value198:Int) (Sv196:_),a1C sv8 rv187 time197 value198=some tv125∧Sl 53 [(1,iv t5),(4,pt b6),(5,pt b7),(6,iv time197),(7,iv value198),(10,iv rv187.1),(11,iv rv187.2.1),(14,sl (some ⟨b176,o177,none⟩) k3 l1),(15,iv (l1.length:Int)),(16,iv sv8.2.2.2.2)] a∧Wd ⟨w0,S0,[]⟩ Sv196 [.box b6 [iv 0,.bool false] 93,.box b7 [iv (w64 (sv8.1+1)),.bool sv8.2.1] 93] [Sq (some ⟨b176,o177,none⟩) k3 l1] w) ?_ ?_
    ·refine cd s u rfl (fun u=>?_) fun u=>?_
     ·refine wp_region_lit (rz0 4 s rfl fun a s=>?_)
      exact ⟨rv187.1,rv187.2.1,Sv85,u,wj s d [1,2] [2]⟩
     exact sk ⟨sv8.2.2.1,sv8.2.2.2.1,Sv85,u,wj s d [1,2] [2]⟩
    rintro a w ⟨time197,value198,Sv196,u,s,d⟩
    refine tn (wp_region_lit (rn 3 [1] s d rfl rfl fun a s=>?_))
    refine rA 4 40 [] s d rfl rfl rfl rfl rfl fun a s=>?_
    refine mv s rfl rfl fun a s=>?_
    refine rA 4 45 [] s d rfl rfl rfl rfl rfl fun a s=>?_
    refine sv s (l5 (o':=1) runUnderlying93 rfl sizeOf4 rfl rfl rfl) rfl fun a s=>?_
    refine ws [iv (w64 (sv8.1+1)),.bool ((sv8.2.1 && (rv187.1 == time197)) && (rv187.2.1 == value198))] s d 1 rfl rfl rfl sizeOf4 fun a w s d=>?_
    refine wpList_nil ?_
    exact l8 (tn ⟨(w64 (sv8.1+1)),((sv8.2.1 && (rv187.1 == time197)) && (rv187.2.1 == value198)),time197,value198,Sv196,u,wj s d [0,1] [0]⟩)
   rintro a w ⟨x164,x165,time166,value167,Sv163,u,s,d⟩
   refine tn (wp_region_lit (rz0 2 s rfl fun a s=>?_))
   exact ⟨_,io u,Sv163,wj s d [0,1] [0]⟩
  refine wp_exit (j5 (j5 (o9 ?_)))
  obtain rfl:=oi u
  have h202:=hd124 _ rfl
  subst h202
  exact tn ⟨Sv85,wj s d [0,1] []⟩
 rintro a w ⟨Sv128,s,d⟩
 refine tn (sn 1 [1] s d rfl rfl fun a s=>?_)
 refine ws [iv e127.1,.bool e127.2] s d 0 rfl rfl rfl sizeOf93 fun a w s d=>?_
 refine nl ?_
 obtain rfl:=oi u
 exact wp_ret (b2m s rfl (K4 d 0 rfl rfl isAgg93 sizeOf93 rfl) (d.ret rfl))
abbrev a4a (w0:World) (X:List Nat) (r:((List Overlap) × Int)):Rd:=fun S w v=>∃ p0_0 k0_0 c0_0,v=.tuple #[sl p0_0 k0_0 r.1,iv r.2]∧Outs X w0 S w [.row p0_0 r.1.length k0_0 c0_0 42 3]∧(l7 c0_0 r.1).p S w
theorem a3Z {w0 S0 p2 k3 l1 from5 to6 r} (u:P6 l1 from5 to6=some r) (hS:Dm S0 w0) (h4:(Sq p2 k3 l1).p S0 w0):Ck Tryz.prog 14 #[sl p2 k3 l1,iv from5,iv to6] w0 S0 [] a4a r:=by
 refine en 105 func14 rfl hS rfl rfl rfl fun a s d=>?_
 have d:=d.addE h4
 refine sz0 2 s rfl fun a s=>?_
 refine wp_seq (sn0 3 s rfl fun a s=>?_)
 obtain ⟨rv8,h7,u⟩:=bt u
 refine cV s d (a5y h7 d.bdom (d.bE 0 rfl)) (j3 call48 rfl) rfl fun a w s d=>?_
 refine rz0 1 s rfl fun a s=>?_
 refine sz0 2 s rfl fun a s=>?_
 refine cd s u rfl (fun u=>?_) fun u=>?_
 ·refine sz0 3 s rfl fun a s=>?_
  obtain rfl:=oi u
  have d:=d.nilRow Overlap 42
  exact wp_ret (j6 (Q8 s rfl (q9 rfl) (q9 rfl) (d.ret ⟨none,0,[],rfl,(d.outs [0] (by decide) rfl),(d.envAt 0 rfl)⟩)))
 refine sk (sn0 1 s rfl fun a s=>?_)
 obtain ⟨rv17,h16,u⟩:=bt u
 refine cR s (a6Y h16 d.dom (d.envAt 0 rfl)) (j3 call51 rfl) rfl ?_
 rintro v25 Sv22 w a h23 ⟨p18,k19,c21,rfl,h26,h20⟩ s
 have d:=(d.callN h23 h26).addE (e:=l7 c21 rv17.1) h20
 refine rz0 5 s rfl fun a s=>?_
 refine sz0 1 s rfl fun a s=>?_
 refine sn0 3 s rfl fun a s=>?_
 obtain ⟨rv28,h27,u⟩:=bt u
 obtain ⟨Sv33,d⟩:=D6 (α:=Record) d 0 rfl 0 rfl
 refine cR s (a8b h27 d.dom (d.envAt 0 rfl)) (j3 call52 rfl) rfl ?_
 rintro v37 Sv34 w a h35 ⟨p29,k30,c32,rfl,h38,h31⟩ s
 have d:=(d.callN h35 h38).addE (e:=l7 c32 rv28) h31
 refine rz0 1 s rfl fun a s=>?_
 refine wp_seq (sz0 1 s rfl fun a s=>?_)
 obtain ⟨e426,h776,u⟩:=bt u
 refine q8 (fun a w=>∃ c427 p428 k429 Sv430,Sl 105 [(11,sl p428 k429 e426)] a∧Wd ⟨w0,S0,[]⟩ Sv430 [.row p428 e426.length k429 c427 42 3] [l7 c427 e426] w) ?_ ?_
 ·refine wp_block ?_
  have d:=d.nilRow Overlap 42
  refine u7 (fun sv39 a w=>∃ c291 p292 k293 Sv294,Sl 105 [(9,sl p18 k19 rv17.1),(11,sl p292 k293 sv39.1),(12,sl p29 k30 rv28),(13,iv sv39.2)] a∧Wd ⟨w0,S0,[]⟩ Sv294 [.row p292 sv39.1.length k293 c291 42 3,.row p29 rv28.length k30 c32 3 1] [Sq p18 k19 rv17.1,l7 c291 sv39.1,l7 c32 rv28] w) (([]:List Overlap),0) h776 ⟨[],none,0,Sv34,wj s d [0,1] [2,0,1]⟩ ?_
  clear h776
  repeat clear u
  rintro sv39 a w tv424 ⟨c291,p292,k293,Sv294,s,d⟩ u hd423
  refine wp_seq (sz0 5 s rfl fun a s=>?_)
  refine cd s u rfl (fun u=>?_) fun u=>?_
  ·refine sk (wp_seq (q8 (fun a w=>∃ (out557:(List Overlap)) (c553 p554 k555 Sv556:_),Q9 sv39 out557=some tv424∧Sl 105 [(9,sl p18 k19 rv17.1),(11,sl p554 k555 out557),(12,sl p29 k30 rv28),(13,iv sv39.2)] a∧Wd ⟨w0,S0,[]⟩ Sv556 [.row p554 out557.length k555 c553 42 3,.row p29 rv28.length k30 c32 3 1] [Sq p18 k19 rv17.1,l7 c553 out557,l7 c32 rv28] w) ?_ ?_))
   ·refine wp_block (sn0 3 s rfl fun a s=>?_)
    obtain ⟨x562,h560,u⟩:=bt u
    obtain ⟨b569,q566,c567,h570,h563,h564,h568,h561⟩:=d.elemRV (α:=Int) 1 rfl 2 rfl h560
    have hsv571:=s
    have hwv572:=d
    subst h570
    have s:=hsv571
    have d:=hwv572
    obtain ⟨_,rfl,rfl⟩:=h561
    refine sv s (o6 runUnderlying22 sizeOf3 rfl rfl h563.1 h563.2 h564) rfl fun a s=>?_
    refine sv s (A7 (j:=0) (d.ownAt 1 rfl) rfl isAgg3 h568 rfl) rfl fun a s=>?_
    obtain ⟨rv574,h573,u⟩:=bt u
    refine cV s d (a9s h573 d.bdom (d.bE 0 rfl)) (j3 call53 rfl) rfl fun a w s d=>?_
    refine wa [iv 0,.bool false] s d zeroValue93 fun b580 a w s d=>?_
    refine ws (C93 rv574) s d 0 rfl rfl rfl sizeOf93 fun a w s d=>?_
    refine nl (wp_seq (sz 3 [0] s d rfl rfl fun a s=>?_))
    refine cd s u rfl (fun u=>?_) fun u=>?_
    ·exact wp_exit (j5 (o9 (tn ⟨sv39.1,c291,p292,k293,Sv294,u,wj s d [1,2] [0,1,2]⟩)))
    refine sk (sn0 2 s rfl fun a s=>?_)
    obtain ⟨n584,h583,u⟩:=bt u
    refine sv s (o8 rfl h583) rfl fun a s=>?_
    refine nl (wp_seq ?_)
    obtain ⟨c607,hc607,u⟩:=bt u
    obtain ⟨c621,hc621,u⟩:=bt u
    refine A9 (fun a w=>∃ Sv622,Sl 105 [(9,sl p18 k19 rv17.1),(11,sl p292 k293 sv39.1),(12,sl (ad b569) k30 rv28),(13,iv sv39.2),(14,pt b580),(15,iv n584),(75,.bool c621)] a∧Wd ⟨w0,S0,[]⟩ Sv622 [.box b580 (C93 rv574) 93,.row p292 sv39.1.length k293 c291 42 3,.row (ad b569) rv28.length k30 c32 3 1] [Sq p18 k19 rv17.1,l7 c291 sv39.1,l7 c32 rv28] w) ?_ ?_
    ·rcases Bool.eq_false_or_eq_true (decide (0<n584)) with h623 | h623
     ·have h624:=E9 hc607 h623
      obtain ⟨x627,h625,h624⟩:=H5 h624
      obtain ⟨b634,q631,c632,h635,h628,h629,h633,h626⟩:=d.elemRV (α:=Overlap) 1 rfl 1 rfl h625
      have hsv636:=s
      have hwv637:=d
      subst h635
      have s:=hsv636
      have d:=hwv637
      obtain ⟨_,_,_,rfl,rfl,rfl,rfl⟩:=h626
      obtain ⟨x640,h638,h624⟩:=H5 h624
      obtain ⟨q644,c645,h641,h642,h646,h639⟩:=d.elemRK (α:=Int) 2 rfl 2 rfl h638
      obtain ⟨_,rfl,rfl⟩:=h639
      rcases Bool.eq_false_or_eq_true c607 with h647 | h647
      ·have h648:=E9 hc621 h647
       obtain ⟨x651,h649,h648⟩:=H5 h648
       obtain ⟨q655,c656,h652,h653,h657,h650⟩:=d.elemRK (α:=Overlap) 1 rfl 1 rfl h649
       obtain ⟨_,_,_,rfl,rfl,rfl,rfl⟩:=h650
       refine h_c [0,1,2] [] d rfl rfl (by kernel_rfl) rfl fun hC d=>?_
       refine gn 3 [0,1,2] [] s hC rfl rfl rfl fun a s=>?_
       have s:=s.bT 52 rfl h623
       refine gn 3 [3,4,5] [] s hC rfl rfl rfl fun a s=>?_
       refine gx s 6 rfl ⟨_,rfl,rfl⟩ rfl hC runUnderlying34 sizeOf42 rfl rfl h628 h629 fun a s=>?_
       refine gt s 7 rfl ⟨_,rfl,rfl⟩ rfl hC (fun w hC=>l5 (o':=q631+1) runUnderlying42 rfl sizeOf3 rfl rfl rfl) fun a s=>?_
       refine gt s 8 rfl ⟨_,rfl,rfl⟩ rfl hC (fun w hC=>A7 (j:=1) (hC.ownAt 1 rfl) rfl isAgg3 h633 rfl) fun a s=>?_
       refine gn 2 [9,10] [] s hC rfl rfl rfl fun a s=>?_
       refine gx s 11 rfl ⟨_,rfl,rfl⟩ rfl hC runUnderlying22 sizeOf3 rfl rfl h641 h642 fun a s=>?_
       refine gt s 12 rfl ⟨_,rfl,rfl⟩ rfl hC (fun w hC=>A7 (j:=0) (hC.ownAt 2 rfl) rfl isAgg3 h646 rfl) fun a s=>?_
       refine gt s 13 rfl ⟨_,rfl,rfl⟩ rfl hC (fun w hC=>b4T rfl rfl) fun a s=>?_
       refine gT s 14 rfl rfl hC rfl rfl h624 fun a s=>?_
       refine gm s 15 rfl rfl rfl hC fun a s=>?_
       have s:=s.bT 65 rfl h647
       refine gn 3 [16,17,18] [] s hC rfl rfl rfl fun a s=>?_
       refine gx s 19 rfl ⟨_,rfl,rfl⟩ rfl hC runUnderlying34 sizeOf42 rfl rfl h652 h653 fun a s=>?_
       refine gt s 20 rfl ⟨_,rfl,rfl⟩ rfl hC (fun w hC=>l5 (o':=q655+2) runUnderlying42 rfl sizeOf4 rfl rfl rfl) fun a s=>?_
       refine gt s 21 rfl ⟨_,rfl,rfl⟩ rfl hC (fun w hC=>A7 (j:=2) (hC.ownAt 1 rfl) rfl isAgg4 h657 rfl) fun a s=>?_
       refine gn 2 [22,23] [0] s hC rfl rfl rfl fun a s=>?_
       refine gt s 24 rfl ⟨_,rfl,rfl⟩ rfl hC (fun w hC=>y_eqlB runUnderlying4 rfl rfl) fun a s=>?_
       refine gT s 25 rfl rfl hC rfl rfl h648 fun a s=>?_
       refine y7 (by kernel_rfl) ?_
       exact ⟨Sv294,wj s d [0,1,2] [0,1,2]⟩
      have h658:=F7 hc621 h647
      refine h_c [0,1,2] [] d rfl rfl (by kernel_rfl) rfl fun hC d=>?_
      refine gn 3 [0,1,2] [] s hC rfl rfl rfl fun a s=>?_
      have s:=s.bT 52 rfl h623
      refine gn 3 [3,4,5] [] s hC rfl rfl rfl fun a s=>?_
      refine gx s 6 rfl ⟨_,rfl,rfl⟩ rfl hC runUnderlying34 sizeOf42 rfl rfl h628 h629 fun a s=>?_
      refine gt s 7 rfl ⟨_,rfl,rfl⟩ rfl hC (fun w hC=>l5 (o':=q631+1) runUnderlying42 rfl sizeOf3 rfl rfl rfl) fun a s=>?_
      refine gt s 8 rfl ⟨_,rfl,rfl⟩ rfl hC (fun w hC=>A7 (j:=1) (hC.ownAt 1 rfl) rfl isAgg3 h633 rfl) fun a s=>?_
      refine gn 2 [9,10] [] s hC rfl rfl rfl fun a s=>?_
      refine gx s 11 rfl ⟨_,rfl,rfl⟩ rfl hC runUnderlying22 sizeOf3 rfl rfl h641 h642 fun a s=>?_
      refine gt s 12 rfl ⟨_,rfl,rfl⟩ rfl hC (fun w hC=>A7 (j:=0) (hC.ownAt 2 rfl) rfl isAgg3 h646 rfl) fun a s=>?_
      refine gt s 13 rfl ⟨_,rfl,rfl⟩ rfl hC (fun w hC=>b4T rfl rfl) fun a s=>?_
      refine gT s 14 rfl rfl hC rfl rfl h624 fun a s=>?_
      refine gm s 15 rfl rfl rfl hC fun a s=>?_
      have s:=s.bF 65 rfl h647
      refine gn 9 [16,17,18,19,20,21,22,23,24] [] s hC rfl rfl rfl fun a s=>?_
      refine gF s 25 rfl rfl hC rfl rfl h658 fun a s=>?_
      refine y7 (by kernel_rfl) ?_
      exact ⟨Sv294,wj s d [0,1,2] [0,1,2]⟩
     have h659:=F7 hc607 h623
     have h660:c607=false:=(Option.some.inj h659).symm
     have h661:=F7 hc621 h660
     refine h_c [0,1,2] [] d rfl rfl (by kernel_rfl) rfl fun hC d=>?_
     refine gn 3 [0,1,2] [] s hC rfl rfl rfl fun a s=>?_
     have s:=s.bF 52 rfl h623
     refine gn 11 [3,4,5,6,7,8,9,10,11,12,13] [] s hC rfl rfl rfl fun a s=>?_
     refine gF s 14 rfl rfl hC rfl rfl h659 fun a s=>?_
     refine gm s 15 rfl rfl rfl hC fun a s=>?_
     have s:=s.bF 65 rfl h660
     refine gn 9 [16,17,18,19,20,21,22,23,24] [] s hC rfl rfl rfl fun a s=>?_
     refine gF s 25 rfl rfl hC rfl rfl h661 fun a s=>?_
     refine y7 (by kernel_rfl) ?_
     exact ⟨Sv294,wj s d [0,1,2] [0,1,2]⟩
    rintro a w ⟨Sv622,s,d⟩
    refine tn (q8 (fun a w=>∃ (out719:(List Overlap)) (c715 p716 k717 Sv718:_),R3 sv39 out719=some tv424∧Sl 105 [(9,sl p18 k19 rv17.1),(11,sl p716 k717 out719),(12,sl (ad b569) k30 rv28),(13,iv sv39.2)] a∧Wd ⟨w0,S0,[]⟩ Sv718 [.row p716 out719.length k717 c715 42 3,.row (ad b569) rv28.length k30 c32 3 1] [Sq p18 k19 rv17.1,l7 c715 out719,l7 c32 rv28] w) ?_ ?_)
    ·refine cd s u rfl (fun u=>?_) fun u=>?_
     ·refine wp_region_lit (rn0 6 s rfl fun a s=>?_)
      obtain ⟨x723,h721,u⟩:=bt u
      obtain ⟨q727,c728,h724,h725,h729,h722⟩:=d.elemRK (α:=Int) 2 rfl 2 rfl h721
      obtain ⟨_,rfl,rfl⟩:=h722
      refine sv s (o6 runUnderlying22 sizeOf3 rfl rfl h724.1 h724.2 h725) rfl fun a s=>?_
      refine sv s (A7 (j:=0) (d.ownAt 2 rfl) rfl isAgg3 h729 rfl) rfl fun a s=>?_
      obtain ⟨x732,h730,u⟩:=bt u
      obtain ⟨b739,q736,c737,h740,h733,h734,h738,h731⟩:=d.elemRV (α:=Overlap) 1 rfl 1 rfl h730
      have hsv741:=s
      have hwv742:=d
      subst h740
      have s:=hsv741
      have d:=hwv742
      obtain ⟨_,_,_,rfl,rfl,rfl,rfl⟩:=h731
      refine sv s (o6 runUnderlying34 sizeOf42 rfl rfl h733.1 h733.2 h734) rfl fun a s=>?_
      refine sv s (l5 (o':=q736+1) runUnderlying42 rfl sizeOf3 rfl rfl rfl) rfl fun a s=>?_
      obtain ⟨l744,h743,u⟩:=bt u
      refine a7s (α:=Overlap) (f:=1) (m:=1) s d 1 rfl 1 rfl h734 rfl rfl sizeOf3 rfl rfl rfl h743 (fun es he=>by rw [h738] at he;subst he;exact ⟨_,_,_,rfl,rfl,rfl,rfl⟩) trivial ?_
      intro c745 a w s d
      have h746:=Y0 h743
      try have s:=s.fl 11 rfl h746
      try have s:=s.fl 76 rfl h746
      exact nl ⟨l744,c745,(ad b739),k293,Sv622,u,wj s d [1,2] [1,0,3]⟩
     obtain ⟨x749,h747,u⟩:=bt u
     obtain ⟨q753,c754,h750,h751,h755,h748⟩:=d.elemRK (α:=Int) 2 rfl 2 rfl h747
     obtain ⟨_,rfl,rfl⟩:=h748
     obtain ⟨x758,h756,u⟩:=bt u
     obtain ⟨q762,c763,h759,h760,h764,h757⟩:=d.elemRK (α:=Int) 2 rfl 2 rfl h756
     obtain ⟨_,rfl,rfl⟩:=h757
     obtain ⟨l768,h767,u⟩:=bt u
     refine A9 (fun a w=>∃ Sv772 c771 k770 p769,Sl 105 [(9,sl p18 k19 rv17.1),(11,sl p769 k770 l768),(12,sl (ad b569) k30 rv28),(13,iv sv39.2)] a∧Wd ⟨w0,S0,[]⟩ Sv772 [.row p769 l768.length k770 c771 42 3,.row (ad b569) rv28.length k30 c32 3 1] [Sq p18 k19 rv17.1,l7 c771 l768,l7 c32 rv28] w) ?_ ?_
     ·refine h_c [0,2] [] d rfl rfl (by kernel_rfl) rfl fun hC d=>?_
      refine gn 3 [0,1,2] [] s hC rfl rfl rfl fun a s=>?_
      refine gx s 3 rfl trivial rfl hC runUnderlying22 sizeOf3 rfl rfl h750 h751 fun a s=>?_
      refine gv s 4 rfl rfl hC (fun w hC=>A7 (j:=0) (hC.ownAt 1 rfl) rfl isAgg3 h755 rfl) fun a s=>?_
      refine gn 3 [5,6,7] [] s hC rfl rfl rfl fun a s=>?_
      refine gx s 8 rfl trivial rfl hC runUnderlying22 sizeOf3 rfl rfl h759 h760 fun a s=>?_
      refine gv s 9 rfl rfl hC (fun w hC=>A7 (j:=0) (hC.ownAt 1 rfl) rfl isAgg3 h764 rfl) fun a s=>?_
      refine gn 2 [10,11] [0] s hC rfl rfl rfl fun a s=>?_
      refine gv s 12 rfl rfl hC (fun w hC=>D7 (vs:=[(0,iv x749),(1,iv x758),(2,.bool rv574.same_)]) Bld42 rfl rfl) fun a s=>?_
      refine ho 13 rfl ?_
      refine o7 (α:=Overlap) (vs:=[.agg #[iv x749,iv x758,.bool rv574.same_]]) (cs:=[iv x749,iv x758,.bool rv574.same_]) (xs:=([(⟨x749,x758,rv574.same_⟩:Overlap)]:List Overlap)) s d El34 rfl rfl rfl rfl rfl rfl ⟨⟨_,_,_,rfl,rfl,rfl,rfl⟩,rfl⟩ rfl trivial rfl fun b766 a w s d=>?_
      refine h_n [1,3] [] d rfl rfl fun hC=>?_
      refine h_d [1,3,0] [] [0,1] [] d rfl rfl rfl rfl fun hC=>?_
      refine ho 14 rfl ?_
      refine F4 (α:=Overlap) s d El34 2 rfl rfl rfl 2 rfl 0 rfl 0 rfl h767 rfl trivial ?_
      intro p769 k770 c771 a w s d
      refine h_n [1,3,0] [] d rfl rfl fun hC=>?_
      refine gv s 15 rfl rfl hC (fun w hC=>R8 rfl) fun a s=>?_
      refine y7 (by kernel_rfl) ?_
      exact ⟨Sv622,c771,k770,p769,wj s d [2,3] [2,0,4]⟩
     rintro a w ⟨Sv772,c771,k770,p769,s,d⟩
     exact tn ⟨l768,c771,p769,k770,Sv772,u,wj s d [0,1] [0,1,2]⟩
    rintro a w ⟨out719,c715,p716,k717,Sv718,u,s,d⟩
    exact l8 (tn ⟨out719,c715,p716,k717,Sv718,u,wj s d [0,1] [0,1,2]⟩)
   rintro a w ⟨out557,c553,p554,k555,Sv556,u,s,d⟩
   refine tn (wp_region_lit (rn0 2 s rfl fun a s=>?_))
   obtain ⟨i559,h558,u⟩:=bt u
   refine sv s (o8 rfl h558) rfl fun a s=>?_
   exact nl ⟨_,io u,c553,p554,k555,Sv556,wj s d [0,1] [0,1,2]⟩
  refine wp_exit (j5 (j5 (o9 ?_)))
  obtain rfl:=oi u
  have h773:=hd423 _ rfl
  subst h773
  exact tn ⟨c291,p292,k293,Sv294,wj s d [0] [1]⟩
 rintro a w ⟨c427,p428,k429,Sv430,s,d⟩
 refine tn (wp_seq (sz0 3 s rfl fun a s=>?_))
 refine cd s u rfl (fun u=>?_) fun u=>?_
 ·refine sz0 2 s rfl fun a s=>?_
  obtain rfl:=oi u
  have d:=d.nilRow Overlap 42
  exact wp_ret (j6 (Q8 s rfl (q9 rfl) (q9 rfl) (d.ret ⟨none,0,[],rfl,(d.outs [0] (by decide) rfl),(d.envAt 0 rfl)⟩)))
 refine sk (sz0 3 s rfl fun a s=>?_)
 obtain rfl:=oi u
 exact wp_ret (Q8 s rfl (q9 rfl) (q9 rfl) (d.ret ⟨p428,k429,c427,rfl,(d.outs [0] (by decide) rfl),(d.envAt 0 rfl)⟩))
theorem a3v {w0 S0 p2 k3 p6 k7 a1 b5 r} (u:a4K a1 b5=some r) (hS:Dm S0 w0) (h4:(Sq p2 k3 a1).p S0 w0) (h8:(Sq p6 k7 b5).p S0 w0):Ck Tryz.prog 16 #[sl p2 k3 a1,sl p6 k7 b5] w0 S0 [] u6 r:=by
 refine en 26 func16 rfl hS rfl rfl rfl fun a s d=>?_
 have d:=(d.addE h4).addE h8
 refine sz0 1 s rfl fun a s=>?_
 refine wp_seq (sz0 5 s rfl fun a s=>?_)
 refine cd s u rfl (fun u=>?_) fun u=>?_
 ·refine sz0 1 s rfl fun a s=>?_
  obtain rfl:=oi u
  exact wp_ret (j6 (rt s rfl (d.ret rfl)))
 refine sk (wp_seq (sz0 1 s rfl fun a s=>?_))
 refine wp_block (u7 (fun sv109 a w=>∃ Sv173,Sl 26 [(0,sl p2 k3 a1),(1,sl p6 k7 b5),(5,iv sv109)] a∧Wd ⟨w0,S0,[]⟩ Sv173 [] [Sq p2 k3 a1,Sq p6 k7 b5] w) 0 u ⟨S0,wj s d [] [1,0]⟩ ?_)
 repeat clear u
 rintro sv109 a w tv206 ⟨Sv173,s,d⟩ u hd205
 refine wp_seq (sz0 4 s rfl fun a s=>?_)
 refine cd s u rfl (fun u=>?_) fun u=>?_
 ·refine sk (wp_seq (wp_block (wp_seq ?_)))
  obtain ⟨x241,h239,u⟩:=bt u
  obtain ⟨b247,o248,q245,c246,h249,h242,h243,h244,h240⟩:=d.elemV 0 rfl h239
  have hsv250:=s
  have hwv251:=d
  subst h249
  have s:=hsv250
  have d:=hwv251
  obtain ⟨_,_,rfl,rfl,rfl⟩:=h240
  have d:=d.addE h244
  obtain ⟨x254,h252,u⟩:=bt u
  obtain ⟨b260,o261,q258,c259,h262,h255,h256,h257,h253⟩:=d.elemV 2 rfl h252
  have hsv263:=s
  have hwv264:=d
  subst h262
  have s:=hsv263
  have d:=hwv264
  obtain ⟨_,_,rfl,rfl,rfl⟩:=h253
  have d:=d.addE h257
  refine A9 (fun a w=>∃ Sv265,Sl 26 [(0,sl (some ⟨b247,o248,none⟩) k3 a1),(1,sl (some ⟨b260,o261,none⟩) k7 b5),(5,iv sv109),(25,.bool (!((x241.From == x254.From) && ((x241.To == x254.To) && true))))] a∧Wd ⟨w0,S0,[]⟩ Sv265 [] [Sq (some ⟨b247,o248,none⟩) k3 a1,Sq (some ⟨b260,o261,none⟩) k7 b5] w) ?_ ?_
  ·refine h_c [] [0,1] d rfl rfl (by kernel_rfl) rfl fun hC d=>?_
   refine gn 2 [0,1] [] s hC rfl rfl rfl fun a s=>?_
   refine gx s 2 rfl trivial rfl hC runUnderlying30 sizeOf71 rfl rfl h242 h243 fun a s=>?_
   refine gv s 3 rfl rfl hC (fun w hC=>G5 (j:=0) (hC.ceAt 1 rfl) rfl isAgg71 sizeOf71 rfl rfl) fun a s=>?_
   refine gn 2 [4,5] [] s hC rfl rfl rfl fun a s=>?_
   refine gx s 6 rfl trivial rfl hC runUnderlying30 sizeOf71 rfl rfl h255 h256 fun a s=>?_
   refine gv s 7 rfl rfl hC (fun w hC=>G5 (j:=0) (hC.ceAt 0 rfl) rfl isAgg71 sizeOf71 rfl rfl) fun a s=>?_
   refine gv s 8 rfl rfl hC (fun w hC=>a6V (by kernel_rfl) rfl rfl (R4 runUnderlying71 (by kernel_rfl) (EqF.cons1 rfl isAgg3 rfl rfl (Q6 runUnderlying3) (EqF.cons1 rfl isAgg3 rfl rfl (Q6 runUnderlying3) EqF.nil)))) fun a s=>?_
   refine y7 (by kernel_rfl) ?_
   exact ⟨Sv173,wj s d [] [2,3]⟩
  rintro a w ⟨Sv265,s,d⟩
  refine tn (cd s u rfl (fun u=>?_) fun u=>?_)
  ·refine sz0 1 s rfl fun a s=>?_
   obtain rfl:=oi u
   have h268:=hd205 _ rfl
   subst h268
   exact wp_ret (A8 (j6 (j6 (A8 (j6 (rt s rfl (d.ret rfl)))))))
  refine wp_skip (l8 (tn (wp_region_lit (rn0 2 s rfl fun a s=>?_))))
  obtain ⟨i270,h269,u⟩:=bt u
  refine sv s (o8 rfl h269) rfl fun a s=>?_
  exact nl ⟨_,io u,Sv265,wj s d [] [0,1]⟩
 obtain ⟨rv271,u,h272⟩:=a0x u
 have h272:=(hd205 _ h272.symm).symm
 subst h272
 refine wp_exit (j5 (j5 (o9 (tn (sz0 1 s rfl fun a s=>?_)))))
 obtain rfl:=oi u
 exact q1 s rfl (d.ret rfl)
abbrev E10_0:SourceID:=(⟨(⟨#[65]⟩:ByteArray),(⟨#[66]⟩:ByteArray),ByteArray.empty,(⟨#[72,72,90]⟩:ByteArray)⟩:SourceID)
theorem a4R {w0 S0 r} (u:a3R=some r) (hS:Dm S0 w0):Ck Tryz.prog 10 #[] w0 S0 [] u6 r:=by
 refine en 57 func10 rfl hS rfl rfl rfl fun a s d=>?_
 refine sz0 1 s rfl fun a s=>?_
 refine sr (sv s (D7 (vs:=[(0,.string (⟨#[65]⟩:ByteArray)),(1,.string (⟨#[66]⟩:ByteArray)),(3,.string (⟨#[72,72,90]⟩:ByteArray))]) Bld52 rfl rfl) rfl fun a s=>?_)
 refine wa Z1 s d zeroValue52 fun b1 a w s d=>?_
 refine ws Z2 s d 0 rfl rfl rfl sizeOf52 fun a w s d=>?_
 refine nl (sr (sv s (D7 (vs:=[(0,iv 1),(1,iv 10)]) b4b rfl rfl) rfl fun a s=>?_))
 refine wa [iv 0,iv 0] s d zeroValue54 fun b2 a w s d=>?_
 refine ws [iv 1,iv 10] s d 0 rfl rfl rfl sizeOf54 fun a w s d=>?_
 refine nl (sn 2 [1,0] s d rfl rfl fun a s=>?_)
 refine o7 (α:=Int) (vs:=[iv 1]) (cs:=[iv 1]) (xs:=([1]:List Int)) s d S9 rfl rfl rfl rfl rfl rfl ⟨⟨_,rfl,rfl⟩,rfl⟩ rfl trivial rfl fun b4 a w s d=>?_
 refine sv s (D7 (vs:=[(0,.agg Z2.toArray),(3,.agg #[iv 1,iv 10]),(7,sl (ad b4) ([1]:List Int).length ([1]:List Int))]) a6s rfl rfl) rfl fun a s=>?_
 refine rn 2 [2,1] s d rfl rfl fun a s=>?_
 refine o7 (α:=Int) (vs:=[iv 1]) (cs:=[iv 1]) (xs:=([1]:List Int)) s d S9 rfl rfl rfl rfl rfl rfl ⟨⟨_,rfl,rfl⟩,rfl⟩ rfl trivial rfl fun b6 a w s d=>?_
 refine sv s (D7 (vs:=[(0,.agg Z2.toArray),(1,iv 20000000),(3,.agg #[iv 1,iv 10]),(7,sl (ad b6) ([1]:List Int).length ([1]:List Int))]) a6s rfl rfl) rfl fun a s=>?_
 refine rn 2 [3,2] s d rfl rfl fun a s=>?_
 refine o7 (α:=Int) (vs:=[iv 1]) (cs:=[iv 1]) (xs:=([1]:List Int)) s d S9 rfl rfl rfl rfl rfl rfl ⟨⟨_,rfl,rfl⟩,rfl⟩ rfl trivial rfl fun b8 a w s d=>?_
 refine sv s (D7 (vs:=[(0,.agg Z2.toArray),(3,.agg #[iv 1,iv 10]),(6,iv 1),(7,sl (ad b8) ([1]:List Int).length ([1]:List Int))]) a6s rfl rfl) rfl fun a s=>?_
 obtain ⟨l12,h11,u⟩:=bt u
 obtain ⟨Sv14,d⟩:=D6 (α:=Int) d 2 rfl 0 rfl
 obtain ⟨Sv15,d⟩:=D6 (α:=Int) d 1 rfl 1 rfl
 obtain ⟨Sv16,d⟩:=D6 (α:=Int) d 0 rfl 2 rfl
 refine b4S (α:=Record) (vs:=[.agg #[.string (⟨#[65]⟩:ByteArray),.string (⟨#[66]⟩:ByteArray),.string ByteArray.empty,.string (⟨#[72,72,90]⟩:ByteArray),iv 0,iv 0,iv 1,iv 10,iv 0,iv 0,iv 0,sl (ad b4) ([1]:List Int).length ([1]:List Int)],.agg #[.string (⟨#[65]⟩:ByteArray),.string (⟨#[66]⟩:ByteArray),.string ByteArray.empty,.string (⟨#[72,72,90]⟩:ByteArray),iv 20000000,iv 0,iv 1,iv 10,iv 0,iv 0,iv 0,sl (ad b6) ([1]:List Int).length ([1]:List Int)],.agg #[.string (⟨#[65]⟩:ByteArray),.string (⟨#[66]⟩:ByteArray),.string ByteArray.empty,.string (⟨#[72,72,90]⟩:ByteArray),iv 0,iv 0,iv 1,iv 10,iv 0,iv 0,iv 1,sl (ad b8) ([1]:List Int).length ([1]:List Int)]]) (cs:=[.string (⟨#[65]⟩:ByteArray),.string (⟨#[66]⟩:ByteArray),.string ByteArray.empty,.string (⟨#[72,72,90]⟩:ByteArray),iv 0,iv 0,iv 1,iv 10,iv 0,iv 0,iv 0,sl (ad b4) ([1]:List Int).length ([1]:List Int),.string (⟨#[65]⟩:ByteArray),.string (⟨#[66]⟩:ByteArray),.string ByteArray.empty,.string (⟨#[72,72,90]⟩:ByteArray),iv 20000000,iv 0,iv 1,iv 10,iv 0,iv 0,iv 0,sl (ad b6) ([1]:List Int).length ([1]:List Int),.string (⟨#[65]⟩:ByteArray),.string (⟨#[66]⟩:ByteArray),.string ByteArray.empty,.string (⟨#[72,72,90]⟩:ByteArray),iv 0,iv 0,iv 1,iv 10,iv 0,iv 0,iv 1,sl (ad b8) ([1]:List Int).length ([1]:List Int)]) (xs:=([(⟨E10_0,0,0,(⟨1,10⟩:Rate),0,0,0,([1]:List Int)⟩:Record),(⟨E10_0,20000000,0,(⟨1,10⟩:Rate),0,0,0,([1]:List Int)⟩:Record),(⟨E10_0,0,0,(⟨1,10⟩:Rate),0,0,1,([1]:List Int)⟩:Record)]:List Record)) s d a9F rfl rfl rfl rfl rfl rfl ⟨⟨_,_,_,_,_,_,_,_,_,_,_,_,rfl,rfl,rfl,rfl,rfl,rfl,rfl,rfl,rfl,rfl,rfl,rfl,⟨_,_,_,rfl,d.envAt 2 rfl⟩⟩,⟨⟨_,_,_,_,_,_,_,_,_,_,_,_,rfl,rfl,rfl,rfl,rfl,rfl,rfl,rfl,rfl,rfl,rfl,rfl,⟨_,_,_,rfl,d.envAt 1 rfl⟩⟩,⟨⟨_,_,_,_,_,_,_,_,_,_,_,_,rfl,rfl,rfl,rfl,rfl,rfl,rfl,rfl,rfl,rfl,rfl,rfl,⟨_,_,_,rfl,d.envAt 0 rfl⟩⟩,rfl⟩⟩⟩ rfl trivial rfl h11 fun b10 c13 a w s d=>?_
 refine rz0 1 s rfl fun a s=>?_
 refine sn0 1 s rfl fun a s=>?_
 obtain ⟨rv18,h17,u⟩:=bt u
 obtain ⟨Sv23,d⟩:=D6 (α:=Record) d 0 rfl 0 rfl
 refine cR s (a5S h17 d.dom (d.envAt 0 rfl)) (j3 call13 rfl) rfl ?_
 rintro v27 Sv24 w a h25 ⟨p19,k20,c22,rfl,h28,h21⟩ s
 have d:=(d.callN h25 h28).addE (e:=l7 c22 rv18.1) h21
 refine rz0 5 s rfl fun a s=>?_
 refine sn0 1 s rfl fun a s=>?_
 obtain ⟨rv30,h29,u⟩:=bt u
 refine cR s (a3Z h29 d.dom (d.envAt 1 rfl)) (j3 call14 rfl) rfl ?_
 rintro v38 Sv35 w a h36 ⟨p31,k32,c34,rfl,h39,h33⟩ s
 have d:=(d.callN h36 h39).addE (e:=l7 c34 rv30.1) h33
 refine rz0 5 s rfl fun a s=>?_
 refine sn0 3 s rfl fun a s=>?_
 refine rA 3 35 [] s d rfl rfl rfl rfl rfl fun a s=>?_
 refine mv s rfl rfl fun a s=>?_
 obtain ⟨c51,hc51,u⟩:=bt u
 refine C7 5 (fun a w=>∃ Sv52,Sl 57 [(6,sl p31 k32 rv30.1),(44,.bool c51)] a∧Wd ⟨w0,S0,[]⟩ Sv52 [.row p31 rv30.1.length k32 c34 42 3] [l7 c34 rv30.1] w) ?_ ?_
 ·rcases Bool.eq_false_or_eq_true ((rv18.2 == 0) && (rv30.2 == 0)) with h50 | h50
  ·have s:=s.bT 39 rfl h50
   have u:=E9 hc51 h50
   refine I6 s (O5 rfl) ⟨_,rfl,rfl⟩ rfl rfl fun a s=>?_
   refine I6 s (D7 (vs:=[(0,iv 10000000),(1,iv 20000000)]) a6t rfl rfl) ⟨_,rfl,rfl⟩ rfl rfl fun a s=>?_
   refine o7 (α:=Span) (vs:=[.agg #[iv 10000000,iv 20000000]]) (cs:=[iv 10000000,iv 20000000]) (xs:=([(⟨10000000,20000000⟩:Span)]:List Span)) s d a3o rfl rfl rfl rfl rfl rfl ⟨⟨_,_,rfl,rfl,rfl⟩,rfl⟩ rfl ⟨_,rfl,rfl⟩ rfl fun b54 a w s d=>?_
   obtain ⟨rv56,h55,u⟩:=bt u
   refine x9 s (a3v h55 d.bdom (d.bRow 2 rfl 2 rfl) (d.bRow 0 rfl 0 rfl)) (j3 call16 rfl) ⟨_,rfl,rfl⟩ rfl rfl ?_
   rintro v60 Sv57 w a h58 rfl s
   have d:=d.callB h58
   refine sv s (X4 rfl rfl) rfl fun a s=>?_
   refine wpList_nil ?_
   obtain rfl:=oi u
   exact tn ⟨Sv35,wj s d [1] [1]⟩
  have s:=s.bF 39 rfl h50
  have u:=F7 hc51 h50
  refine rn0 5 s rfl fun a s=>?_
  refine wpList_nil ?_
  obtain rfl:=oi u
  exact tn ⟨Sv35,wj s d [0] [0]⟩
 rintro a w ⟨Sv52,s,d⟩
 refine mv s rfl rfl fun a s=>?_
 refine rA 4 45 [] s d rfl rfl rfl rfl rfl fun a s=>?_
 refine mv s rfl rfl fun a s=>?_
 obtain ⟨c77,hc77,u⟩:=bt u
 refine C7 6 (fun a w=>∃ Sv78,Sl 57 [(56,.bool c77)] a∧Wd ⟨w0,S0,[]⟩ Sv78 [] [] w) ?_ ?_
 ·rcases Bool.eq_false_or_eq_true (c51 && ((rv30.1.length:Int) == 1)) with h76 | h76
  ·have s:=s.bT 50 rfl h76
   have u:=E9 hc77 h76
   refine I6 s (O5 rfl) ⟨_,rfl,rfl⟩ rfl rfl fun a s=>?_
   obtain ⟨x81,h79,u⟩:=bt u
   obtain ⟨b88,q85,c86,h89,h82,h83,h87,h80⟩:=d.elemRV (α:=Overlap) 0 rfl 0 rfl h79
   have hsv90:=s
   have hwv91:=d
   subst h89
   have s:=hsv90
   have d:=hwv91
   obtain ⟨_,_,_,rfl,rfl,rfl,rfl⟩:=h80
   refine I6 s (o6 runUnderlying34 sizeOf42 rfl rfl h82.1 h82.2 h83) ⟨_,rfl,rfl⟩ rfl rfl fun a s=>?_
   refine I6 s (I1 (j:=0) (d.ownAt 0 rfl) rfl isAgg42 sizeOf42 h87 rfl rfl) ⟨_,rfl,rfl⟩ rfl rfl fun a s=>?_
   refine I6 s (D7 (vs:=[(1,iv 10000000),(2,.bool true)]) Bld42 rfl rfl) ⟨_,rfl,rfl⟩ rfl rfl fun a s=>?_
   refine I6 s (b2x (by kernel_rfl) rfl rfl (R4 runUnderlying42 (by kernel_rfl) (EqF.cons1 rfl isAgg3 rfl rfl (Q6 runUnderlying3) (EqF.cons1 rfl isAgg3 rfl rfl (Q6 runUnderlying3) (EqF.cons1 rfl isAgg4 rfl rfl (b4o runUnderlying4) EqF.nil))))) ⟨_,rfl,rfl⟩ rfl rfl fun a s=>?_
   refine sv s (X4 rfl rfl) rfl fun a s=>?_
   refine wpList_nil ?_
   obtain rfl:=oi u
   exact tn ⟨Sv52,wj s d [] []⟩
  have s:=s.bF 50 rfl h76
  have u:=F7 hc77 h76
  refine rn0 6 s rfl fun a s=>?_
  refine wpList_nil ?_
  obtain rfl:=oi u
  exact tn ⟨Sv52,wj s d [] []⟩
 rintro a w ⟨Sv78,s,d⟩
 refine rz0 1 s rfl fun a s=>?_
 obtain rfl:=oi u
 exact q1 s rfl (d.ret rfl)
abbrev b3y (w0:World) (X:List Nat) (r:Dice):Rd:=fun S w v=>∃ b_0 p0_0 k0_0,v=pt b_0∧Outs X w0 S w [.box b_0 (C87 r p0_0 k0_0) 87]∧(Sq p0_0 k0_0 r.L).p S w
theorem b3x {w0 S0 p2 k3 l1 r} (u:b0B l1=some r) (hS:Dm S0 w0) (h4:(Sq p2 k3 l1).p S0 w0):Ck Tryz.prog 11 #[sl p2 k3 l1] w0 S0 [] b3y r:=by
 refine en 6 func11 rfl hS rfl rfl rfl fun a s d=>?_
 have d:=d.addE h4
 refine sz0 1 s rfl fun a s=>?_
 refine sn0 1 s rfl fun a s=>?_
 refine sv s (D7 (vs:=[(0,sl p2 k3 l1)]) Bld87 rfl rfl) rfl fun a s=>?_
 refine wb [sl p2 k3 l1,iv 0] s d rfl fun b5 a w s d=>?_
 refine rz0 1 s rfl fun a s=>?_
 obtain rfl:=oi u
 exact q1 s rfl (d.ret ⟨b5,p2,k3,rfl,(d.outs [0] (by decide) rfl),(d.envAt 0 rfl)⟩)
abbrev a9U (w0:World) (X:List Nat) (b2:Nat) (r:(Int × Dice)):(Nat→Prop)→World→Value→Prop:=fun S w v=>∃ pq0_0 kq0_0,v=iv r.1∧Outs X w0 S w [.box b2 (C87 r.2 pq0_0 kq0_0) 87]∧(Sq pq0_0 kq0_0 r.2.L).p S w
theorem y5 {w0 S0 b2 p3 k4 d1 n6 r} (u:y9 d1 n6=some r) (hS:Dm S0 w0) (hin:Ins S0 w0 [.box b2 (C87 d1 p3 k4) 87]) (h5:(Sq p3 k4 d1.L).p S0 w0):Calls Tryz.prog 30 #[pt b2,iv n6] w0 (Ret (I8 [.box b2 (C87 d1 p3 k4) 87]) w0 S0 (a9U w0 (I8 [.box b2 (C87 d1 p3 k4) 87]) b2 r)):=by
 refine enI 45 func30 rfl hS hin rfl rfl rfl fun a s d=>?_
 have d:=d.addE h5
 refine sz0 1 s rfl fun a s=>?_
 refine wp_seq (wp_seq (A9 (fun a w=>∃ Sv7,Sl 45 [(0,pt b2),(1,iv n6),(19,.bool ((decide ((d1.L.length:Int)≤d1.At)) || (decide (n6<1))))] a∧Wd ⟨w0,S0,I8 [.box b2 (C87 d1 p3 k4) 87]⟩ Sv7 [.box b2 (C87 d1 p3 k4) 87] [Sq p3 k4 d1.L] w) ?_ ?_))
 ·refine h_c [0] [] d rfl rfl (by kernel_rfl) rfl fun hC d=>?_
  refine gn 11 [0,1,2,3,4,5,6,7,8,9,10] [0,0] s hC rfl rfl rfl fun a s=>?_
  refine gO 3 16 [11,12,13] [] s hC rfl rfl rfl rfl rfl rfl fun a s=>?_
  refine y7 (by kernel_rfl) ?_
  exact ⟨S0,wj s d [0] [0]⟩
 rintro a w ⟨Sv7,s,d⟩
 refine tn (cd s u rfl (fun u=>?_) fun u=>?_)
 ·refine sz0 1 s rfl fun a s=>?_
  obtain rfl:=oi u
  exact wp_ret (j6 (rt s rfl (d.ret ⟨p3,k4,rfl,(d.outs [0] (by decide) rfl),(d.envAt 0 rfl)⟩)))
 refine sk (wp_seq ?_)
 obtain ⟨x12,h10,u⟩:=bt u
 obtain ⟨b18,o19,q16,c17,h20,h13,h14,h15,h11⟩:=d.elemV 0 rfl h10
 have hsv21:=s
 have hwv22:=d
 subst h20
 have s:=hsv21
 have d:=hwv22
 obtain ⟨_,rfl,rfl⟩:=h11
 have d:=d.addE h15
 obtain ⟨rem24,h23,u⟩:=bt u
 refine A9 (fun a w=>∃ Sv25,Sl 45 [(0,pt b2),(1,iv n6),(5,iv rem24)] a∧Wd ⟨w0,S0,I8 [.box b2 (C87 d1 (some ⟨b18,o19,none⟩) k4) 87]⟩ Sv25 [.box b2 (C87 d1 (some ⟨b18,o19,none⟩) k4) 87] [Sq (some ⟨b18,o19,none⟩) k4 d1.L] w) ?_ ?_
 ·refine h_c [0] [0] d rfl rfl (by kernel_rfl) rfl fun hC d=>?_
  refine gn 8 [0,1,2,3,4,5,6,7] [0,0] s hC rfl rfl rfl fun a s=>?_
  refine gx s 8 rfl trivial rfl hC runUnderlying22 sizeOf3 rfl rfl h13 h14 fun a s=>?_
  refine gv s 9 rfl rfl hC (fun w hC=>C8 (j:=0) (hC.ceAt 0 rfl) rfl isAgg3 rfl) fun a s=>?_
  refine gm s 10 rfl rfl rfl hC fun a s=>?_
  refine gv s 11 rfl rfl hC (fun w hC=>b3Z rfl rfl h23) fun a s=>?_
  refine gv s 12 rfl rfl hC (fun w hC=>R8 rfl) fun a s=>?_
  refine y7 (by kernel_rfl) ?_
  exact ⟨Sv7,wj s d [0] [1]⟩
 rintro a w ⟨Sv25,s,d⟩
 refine tn (sn 7 [0] s d rfl rfl fun a s=>?_)
 refine ws [sl (some ⟨b18,o19,none⟩) k4 d1.L,iv (w64 (d1.At+1))] s d 0 rfl rfl rfl sizeOf3 fun a w s d=>?_
 refine nl (wp_seq (sz0 2 s rfl fun a s=>?_))
 refine q8 (fun a w=>∃ (x30:Int) (Sv29:_),a2q d1 x30=some r∧Sl 45 [(5,iv x30)] a∧Wd ⟨w0,S0,I8 [.box b2 (C87 d1 (some ⟨b18,o19,none⟩) k4) 87]⟩ Sv29 [.box b2 [sl (some ⟨b18,o19,none⟩) k4 d1.L,iv (w64 (d1.At+1))] 87] [Sq (some ⟨b18,o19,none⟩) k4 d1.L] w) ?_ ?_
 ·refine cd s u rfl (fun u=>?_) fun u=>?_
  ·refine wp_region_lit (rn0 3 s rfl fun a s=>?_)
   obtain ⟨x33,h32,u⟩:=bt u
   refine sv s (o8 rfl h32) rfl fun a s=>?_
   exact nl ⟨x33,Sv25,u,wj s d [0] [0]⟩
  exact sk ⟨rem24,Sv25,u,wj s d [0] [0]⟩
 rintro a w ⟨x30,Sv29,u,s,d⟩
 refine tn (sz0 2 s rfl fun a s=>?_)
 obtain rfl:=oi u
 exact q1 s rfl (d.ret ⟨(some ⟨b18,o19,none⟩),k4,rfl,(d.outs [0] (by decide) rfl),(d.envAt 0 rfl)⟩)
abbrev a8W (w0:World) (X:List Nat) (b2:Nat) (r:(SourceID × Dice)):(Nat→Prop)→World→Value→Prop:=fun S w v=>∃ pq0_0 kq0_0,v=V52 r.1∧Outs X w0 S w [.box b2 (C87 r.2 pq0_0 kq0_0) 87]∧(Sq pq0_0 kq0_0 r.2.L).p S w
abbrev D46t1 (b2:Nat) (b6:Nat):E8:=[(0,pt b2),(2,pt b6)]
abbrev D46t2 (b2:Nat) (b24:Nat) (b40:Nat) (b56:Nat) (b8:Nat) (rv10:(Int × Dice)) (rv26:(Int × Dice)) (rv42:(Int × Dice)) (rv58:(Int × Dice)) (x16:ByteArray) (x32:ByteArray) (x48:ByteArray) (x64:ByteArray):Vs:=[(0,3,sl (ad b8) ([(⟨#[71,82]⟩:ByteArray),(⟨#[88]⟩:ByteArray),(⟨#[55,65]⟩:ByteArray)]:List ByteArray).length ([(⟨#[71,82]⟩:ByteArray),(⟨#[88]⟩:ByteArray),(⟨#[55,65]⟩:ByteArray)]:List ByteArray)),(1,4,pt b2),(2,5,iv rv10.1),(3,6,.pointer (some ⟨b8,(0+(rv10.1).toNat * 1),none⟩)),(4,7,.string x16),(5,8,sl (ad b24) ([(⟨#[70,85,82]⟩:ByteArray),(⟨#[65]⟩:ByteArray),(⟨#[65,66,67,68,69]⟩:ByteArray),(⟨#[70,85]⟩:ByteArray)]:List ByteArray).length ([(⟨#[70,85,82]⟩:ByteArray),(⟨#[65]⟩:ByteArray),(⟨#[65,66,67,68,69]⟩:ByteArray),(⟨#[70,85]⟩:ByteArray)]:List ByteArray)),(6,9,pt b2),(7,10,iv rv26.1),(8,11,.pointer (some ⟨b24,(0+(rv26.1).toNat * 1),none⟩)),(9,12,.string x32),(10,13,sl (ad b40) ([(⟨#[]⟩:ByteArray),(⟨#[48,48]⟩:ByteArray),(⟨#[49,48]⟩:ByteArray)]:List ByteArray).length ([(⟨#[]⟩:ByteArray),(⟨#[48,48]⟩:ByteArray),(⟨#[49,48]⟩:ByteArray)]:List ByteArray)),(11,14,pt b2),(12,15,iv rv42.1),(13,16,.pointer (some ⟨b40,(0+(rv42.1).toNat * 1),none⟩)),(14,17,.string x48),(15,18,sl (ad b56) ([(⟨#[72,72,90]⟩:ByteArray),(⟨#[72,72,78]⟩:ByteArray),(⟨#[66,72,90]⟩:ByteArray)]:List ByteArray).length ([(⟨#[72,72,90]⟩:ByteArray),(⟨#[72,72,78]⟩:ByteArray),(⟨#[66,72,90]⟩:ByteArray)]:List ByteArray)),(16,19,pt b2),(17,20,iv rv58.1),(18,21,.pointer (some ⟨b56,(0+(rv58.1).toNat * 1),none⟩)),(19,22,.string x64),(20,23,.agg #[.string x16,.string x32,.string x48,.string x64])]
abbrev D46t3:List Value:=Z3
abbrev D46t4:List ByteArray:=([(⟨#[71,82]⟩:ByteArray),(⟨#[88]⟩:ByteArray),(⟨#[55,65]⟩:ByteArray)]:List ByteArray)
abbrev D46t5:List Value:=Z4
abbrev D46t6:List ByteArray:=([(⟨#[70,85,82]⟩:ByteArray),(⟨#[65]⟩:ByteArray),(⟨#[65,66,67,68,69]⟩:ByteArray),(⟨#[70,85]⟩:ByteArray)]:List ByteArray)
abbrev D46t7:List Value:=Z5
abbrev D46t8:List ByteArray:=([(⟨#[]⟩:ByteArray),(⟨#[48,48]⟩:ByteArray),(⟨#[49,48]⟩:ByteArray)]:List ByteArray)
abbrev D46t9:List Value:=Z6
abbrev D46t10:List ByteArray:=([(⟨#[72,72,90]⟩:ByteArray),(⟨#[72,72,78]⟩:ByteArray),(⟨#[66,72,90]⟩:ByteArray)]:List ByteArray)
abbrev b1a:List ByteArray:=([(⟨#[]⟩:ByteArray),(⟨#[48,48]⟩:ByteArray),(⟨#[49,48]⟩:ByteArray)]:List ByteArray)
abbrev b0Z:List ByteArray:=([(⟨#[71,82]⟩:ByteArray),(⟨#[88]⟩:ByteArray),(⟨#[55,65]⟩:ByteArray)]:List ByteArray)
abbrev b0Y:List ByteArray:=([(⟨#[72,72,90]⟩:ByteArray),(⟨#[72,72,78]⟩:ByteArray),(⟨#[66,72,90]⟩:ByteArray)]:List ByteArray)
abbrev b0X:List ByteArray:=([(⟨#[70,85,82]⟩:ByteArray),(⟨#[65]⟩:ByteArray),(⟨#[65,66,67,68,69]⟩:ByteArray),(⟨#[70,85]⟩:ByteArray)]:List ByteArray)
theorem a8V {w0 S0 b2 p3 k4 d1 r} (u:a2U d1=some r) (hS:Dm S0 w0) (hin:Ins S0 w0 [.box b2 (C87 d1 p3 k4) 87]) (h5:(Sq p3 k4 d1.L).p S0 w0):Calls Tryz.prog 46 #[pt b2] w0 (Ret (I8 [.box b2 (C87 d1 p3 k4) 87]) w0 S0 (a8W w0 (I8 [.box b2 (C87 d1 p3 k4) 87]) b2 r)):=by
 refine enI 24 func46 rfl hS hin rfl rfl rfl fun a s d=>?_
 have d:=d.addE h5
 refine sr (wa Z1 s d zeroValue52 fun b6 a w s d=>?_)
 refine nl (wp_seq ?_)
 obtain ⟨rv10,h9,u⟩:=bt u
 obtain ⟨x16,h14,u⟩:=bt u
 obtain ⟨rv26,h25,u⟩:=bt u
 obtain ⟨x32,h30,u⟩:=bt u
 obtain ⟨rv42,h41,u⟩:=bt u
 obtain ⟨x48,h46,u⟩:=bt u
 obtain ⟨rv58,h57,u⟩:=bt u
 obtain ⟨x64,h62,u⟩:=bt u
 refine A9 (fun a w=>∃ Sv71 k60 p59,Sl 24 [(2,pt b6)] a∧Wd ⟨w0,S0,I8 [.box b2 (C87 d1 p3 k4) 87]⟩ Sv71 [.box b2 (C87 rv58.2 p59 k60) 87,.box b6 [.string x16,.string x32,.string x48,.string x64] 52] [Sq p59 k60 rv58.2.L] w) ?_ ?_
 ·refine a6U (n:=22) (Φ:=fun l a w=>∃ b24 b40 b56 b8 k12 k28 k44 k60 p11 p27 p43 p59 S,SlF 24 (D46t1 b2 b6) (D46t2 b2 b24 b40 b56 b8 rv10 rv26 rv42 rv58 x16 x32 x48 x64) l a∧Wd ⟨w0,S0,I8 [.box b2 (C87 d1 p3 k4) 87]⟩ S [((bif l 21 then .box b6 [.string x16,.string x32,.string x48,.string x64] 52 else .box b6 Z1 52):Res),((bif l 17 then .box b2 (C87 rv58.2 p59 k60) 87 else (bif l 12 then .box b2 (C87 rv42.2 p43 k44) 87 else (bif l 7 then .box b2 (C87 rv26.2 p27 k28) 87 else (bif l 2 then .box b2 (C87 rv10.2 p11 k12) 87 else .box b2 (C87 d1 p3 k4) 87)))):Res),((bif l 0 then .row (ad b8) b0Z.length b0Z.length Z3 9 1 else emp):Res),((bif l 5 then .row (ad b24) b0X.length b0X.length Z4 9 1 else emp):Res),((bif l 10 then .row (ad b40) b1a.length b1a.length Z5 9 1 else emp):Res),((bif l 15 then .row (ad b56) b0Y.length b0Y.length Z6 9 1 else emp):Res)] [Sq p3 k4 d1.L,a5u (l 0) (l7 Z3 b0Z),a5u (l 2) (Sq p11 k12 rv10.2.L),a5u (l 5) (l7 Z4 b0X),a5u (l 7) (Sq p27 k28 rv26.2.L),a5u (l 10) (l7 Z5 b1a),a5u (l 12) (Sq p43 k44 rv42.2.L),a5u (l 15) (l7 Z6 b0Y),a5u (l 17) (Sq p59 k60 rv58.2.L)] w) [1,1,2,3,4,1,1,3,4,5,1,1,4,5,6,1,1,5,6,7,8,9] (by kernel_rfl) rfl (by kernel_rfl) ?_ (O6.succ (O6.succ (O6.succ (O6.succ (O6.succ (O6.succ (O6.succ (O6.succ (O6.succ (O6.succ (O6.succ (O6.succ (O6.succ (O6.succ (O6.succ (O6.succ (O6.succ (O6.succ (O6.succ (O6.succ (O6.succ (O6.succ O6.zero ?_) ?_) ?_) ?_) ?_) ?_) ?_) ?_) ?_) ?_) ?_) ?_) ?_) ?_) ?_) ?_) ?_) ?_) ?_) ?_) ?_) ?_) ?_
  ·obtain ⟨b24,b40,b56,b8,k12,k28,k44,k60,p11,p27,p43,p59,_⟩:∃ (b24:Nat) (b40:Nat) (b56:Nat) (b8:Nat) (k12:Nat) (k28:Nat) (k44:Nat) (k60:Nat) (p11:Option Addr) (p27:Option Addr) (p43:Option Addr) (p59:Option Addr),True:=⟨0,0,0,0,0,0,0,0,none,none,none,none,trivial⟩
   have d:=((d.drew).emp).emp
   have d:=((d.emp).emp).noE (Sq p59 k60 rv58.2.L)
   have d:=((d.noE (l7 Z6 b0Y)).noE (Sq p43 k44 rv42.2.L)).noE (l7 Z5 b1a)
   have d:=((d.noE (Sq p27 k28 rv26.2.L)).noE (l7 Z4 b0X)).noE (Sq p11 k12 rv10.2.L)
   have d:=d.noE (l7 Z3 b0Z)
   exact ⟨b24,b40,b56,b8,k12,k28,k44,k60,p11,p27,p43,p59,S0,SlF.init (s.wk rfl) (by kernel_rfl),d.gt [4,5,0,1,2,3] [8,0,1,2,3,4,5,6,7] rfl rfl⟩
  ·intro l hi hp hc a w ⟨b24,b40,b56,b8,k12,k28,k44,k60,p11,p27,p43,p59,S,hS,d⟩
   refine a3m rfl ?_
   have s:=hS.open_ .nil
   refine o7 (α:=ByteArray) (vs:=D46t3) (cs:=D46t3) (xs:=D46t4) s d El122 rfl rfl rfl rfl rfl rfl ⟨⟨_,rfl,rfl⟩,⟨⟨_,rfl,rfl⟩,⟨⟨_,rfl,rfl⟩,rfl⟩⟩⟩ rfl trivial rfl fun b8 a w s d=>?_
   have h_3:=N7 hc 3 hi rfl
   have d:=d.opt 0 rfl true
   exact nl ⟨b24,b40,b56,b8,k12,k28,k44,k60,p11,p27,p43,p59,S,hS.close .nil s rfl (.here (.same (.same (.neg h_3 rfl (.same (.same (.same (.same (.same (.same (.same (.same (.same (.same (.same (.same (.same (.same (.same (.same (.same .nil))))))))))))))))))))) 0 rfl,d.gt [1,2,0,4,5,6] [2,0,4,5,6,7,8,9,10] rfl rfl⟩
  ·intro l hi hp hc a w ⟨b24,b40,b56,b8,k12,k28,k44,k60,p11,p27,p43,p59,S,hS,d⟩
   refine T9 hS (.b (t:=0) rfl .nil) rfl rfl trivial (O5 rfl) (rfl) 1 rfl fun a hS=>⟨b24,b40,b56,b8,k12,k28,k44,k60,p11,p27,p43,p59,S,hS,d⟩
  ·intro l hi hp hc a w ⟨b24,b40,b56,b8,k12,k28,k44,k60,p11,p27,p43,p59,S,hS,d⟩
   have h_7:=N7 hc 7 hi rfl
   have h_12:=N7 hc 12 h_7 rfl
   have h_17:=N7 hc 17 h_12 rfl
   have d:=d.fixR 1 (r':=.box b2 (C87 d1 p3 k4) 87) rfl ((bF h_17).trans ((bF h_12).trans ((bF h_7).trans ((bF hi)))))
   have h_1:=hp 1 rfl
   refine a3m rfl ?_
   have s:=hS.open_ (.v (t:=4) 1 rfl h_1 .nil)
   refine cR s (y5 h9 d.dom (d.ins [1] (by decide) rfl) (d.envAt 0 rfl)) (j3 call30 rfl) rfl ?_
   rintro v100 Sv97 w a h98 ⟨p11,k12,rfl,h101,h13⟩ s
   have d:=((d.callO [1] [0,2,3,4,5] (by decide) rfl h98 h101).addE (e:=Sq p11 k12 rv10.2.L) h13).fixR 0 (r':=(bif l 17 then .box b2 (C87 rv58.2 p59 k60) 87 else (bif l 12 then .box b2 (C87 rv42.2 p43 k44) 87 else (bif l 7 then .box b2 (C87 rv26.2 p27 k28) 87 else .box b2 (C87 rv10.2 p11 k12) 87)))) rfl ((bF h_17).trans ((bF h_12).trans ((bF h_7)))).symm
   have d:=d.opt 0 rfl true
   exact nl ⟨b24,b40,b56,b8,k12,k28,k44,k60,p11,p27,p43,p59,Sv97,hS.close (.v (t:=4) 1 rfl h_1 .nil) s rfl (.same (.same (.here (.same (.same (.same (.same (.same (.same (.same (.same (.same (.same (.same (.same (.same (.same (.same (.same (.same (.same .nil))))))))))))))))))))) 2 rfl,d.gt [1,0,2,3,4,5] [2,3,0,5,6,7,8,9,10] rfl rfl⟩
  ·intro l hi hp hc a w ⟨b24,b40,b56,b8,k12,k28,k44,k60,p11,p27,p43,p59,S,hS,d⟩
   have hw0:=d
   have h_0:=hp 0 rfl
   have d:=(d.fixR 2 (r':=.row (ad b8) b0Z.length b0Z.length Z3 9 1) rfl ((bT h_0))).yes 1 rfl h_0
   have h_2:=hp 2 rfl
   obtain ⟨c21,h17,h22,h15⟩:=d.elemRX (α:=ByteArray) 2 rfl 0 rfl h14
   obtain ⟨_,rfl,rfl⟩:=h15
   refine T9 hS (.v (t:=3) 0 rfl h_0 (.v (t:=5) 2 rfl h_2 .nil)) rfl rfl trivial (o6 runUnderlying122 sizeOf9 rfl rfl h17.1 h17.2 rfl) (rfl) 3 rfl fun a hS=>⟨b24,b40,b56,b8,k12,k28,k44,k60,p11,p27,p43,p59,S,hS,hw0⟩
  ·intro l hi hp hc a w ⟨b24,b40,b56,b8,k12,k28,k44,k60,p11,p27,p43,p59,S,hS,d⟩
   have hw0:=d
   have h_3:=hp 3 rfl
   have h_0:=hc 3 0 rfl h_3
   have d:=(d.fixR 2 (r':=.row (ad b8) b0Z.length b0Z.length Z3 9 1) rfl ((bT h_0))).yes 1 rfl h_0
   obtain ⟨c21,h17,h22,h15⟩:=d.elemRX (α:=ByteArray) 2 rfl 0 rfl h14
   obtain ⟨_,rfl,rfl⟩:=h15
   refine T9 hS (.v (t:=6) 3 rfl h_3 .nil) rfl rfl trivial (A7 (j:=0) (d.ownAt 2 rfl) rfl isAgg9 h22 rfl) (rfl) 4 rfl fun a hS=>⟨b24,b40,b56,b8,k12,k28,k44,k60,p11,p27,p43,p59,S,hS,hw0⟩
  ·intro l hi hp hc a w ⟨b24,b40,b56,b8,k12,k28,k44,k60,p11,p27,p43,p59,S,hS,d⟩
   refine a3m rfl ?_
   have s:=hS.open_ .nil
   refine o7 (α:=ByteArray) (vs:=D46t5) (cs:=D46t5) (xs:=D46t6) s d El122 rfl rfl rfl rfl rfl rfl ⟨⟨_,rfl,rfl⟩,⟨⟨_,rfl,rfl⟩,⟨⟨_,rfl,rfl⟩,⟨⟨_,rfl,rfl⟩,rfl⟩⟩⟩⟩ rfl trivial rfl fun b24 a w s d=>?_
   have h_8:=N7 hc 8 hi rfl
   have d:=d.opt 0 rfl true
   exact nl ⟨b24,b40,b56,b8,k12,k28,k44,k60,p11,p27,p43,p59,S,hS.close .nil s rfl (.same (.same (.same (.same (.same (.here (.same (.same (.neg h_8 rfl (.same (.same (.same (.same (.same (.same (.same (.same (.same (.same (.same (.same .nil))))))))))))))))))))) 5 rfl,d.gt [1,2,3,0,5,6] [2,3,4,0,6,7,8,9,10] rfl rfl⟩
  ·intro l hi hp hc a w ⟨b24,b40,b56,b8,k12,k28,k44,k60,p11,p27,p43,p59,S,hS,d⟩
   refine T9 hS (.b (t:=0) rfl .nil) rfl rfl trivial (O5 rfl) (rfl) 6 rfl fun a hS=>⟨b24,b40,b56,b8,k12,k28,k44,k60,p11,p27,p43,p59,S,hS,d⟩
  ·intro l hi hp hc a w ⟨b24,b40,b56,b8,k12,k28,k44,k60,p11,p27,p43,p59,S,hS,d⟩
   have h_12:=N7 hc 12 hi rfl
   have h_17:=N7 hc 17 h_12 rfl
   have h_2:=hp 2 rfl
   have d:=(d.fixR 1 (r':=.box b2 (C87 rv10.2 p11 k12) 87) rfl ((bF h_17).trans ((bF h_12).trans ((bF hi).trans ((bT h_2)))))).yes 2 rfl h_2
   have h_6:=hp 6 rfl
   refine a3m rfl ?_
   have s:=hS.open_ (.v (t:=9) 6 rfl h_6 .nil)
   refine cR s (y5 h25 d.dom (d.ins [1] (by decide) rfl) (d.envAt 0 rfl)) (j3 call30 rfl) rfl ?_
   rintro v110 Sv107 w a h108 ⟨p27,k28,rfl,h111,h29⟩ s
   have d:=((d.callO [1] [0,2,3,4,5] (by decide) rfl h108 h111).addE (e:=Sq p27 k28 rv26.2.L) h29).fixR 0 (r':=(bif l 17 then .box b2 (C87 rv58.2 p59 k60) 87 else (bif l 12 then .box b2 (C87 rv42.2 p43 k44) 87 else .box b2 (C87 rv26.2 p27 k28) 87))) rfl ((bF h_17).trans ((bF h_12))).symm
   have d:=d.opt 0 rfl true
   exact nl ⟨b24,b40,b56,b8,k12,k28,k44,k60,p11,p27,p43,p59,Sv107,hS.close (.v (t:=9) 6 rfl h_6 .nil) s rfl (.same (.same (.same (.same (.same (.same (.same (.here (.same (.same (.same (.same (.same (.same (.same (.same (.same (.same (.same (.same (.same .nil))))))))))))))))))))) 7 rfl,d.gt [1,0,2,3,4,5] [3,4,5,6,0,8,9,10,11] rfl rfl⟩
  ·intro l hi hp hc a w ⟨b24,b40,b56,b8,k12,k28,k44,k60,p11,p27,p43,p59,S,hS,d⟩
   have hw0:=d
   have h_5:=hp 5 rfl
   have d:=(d.fixR 3 (r':=.row (ad b24) b0X.length b0X.length Z4 9 1) rfl ((bT h_5))).yes 3 rfl h_5
   have h_7:=hp 7 rfl
   obtain ⟨c37,h33,h38,h31⟩:=d.elemRX (α:=ByteArray) 3 rfl 0 rfl h30
   obtain ⟨_,rfl,rfl⟩:=h31
   refine T9 hS (.v (t:=8) 5 rfl h_5 (.v (t:=10) 7 rfl h_7 .nil)) rfl rfl trivial (o6 runUnderlying122 sizeOf9 rfl rfl h33.1 h33.2 rfl) (rfl) 8 rfl fun a hS=>⟨b24,b40,b56,b8,k12,k28,k44,k60,p11,p27,p43,p59,S,hS,hw0⟩
  ·intro l hi hp hc a w ⟨b24,b40,b56,b8,k12,k28,k44,k60,p11,p27,p43,p59,S,hS,d⟩
   have hw0:=d
   have h_8:=hp 8 rfl
   have h_5:=hc 8 5 rfl h_8
   have d:=(d.fixR 3 (r':=.row (ad b24) b0X.length b0X.length Z4 9 1) rfl ((bT h_5))).yes 3 rfl h_5
   obtain ⟨c37,h33,h38,h31⟩:=d.elemRX (α:=ByteArray) 3 rfl 0 rfl h30
   obtain ⟨_,rfl,rfl⟩:=h31
   refine T9 hS (.v (t:=11) 8 rfl h_8 .nil) rfl rfl trivial (A7 (j:=0) (d.ownAt 3 rfl) rfl isAgg9 h38 rfl) (rfl) 9 rfl fun a hS=>⟨b24,b40,b56,b8,k12,k28,k44,k60,p11,p27,p43,p59,S,hS,hw0⟩
  ·intro l hi hp hc a w ⟨b24,b40,b56,b8,k12,k28,k44,k60,p11,p27,p43,p59,S,hS,d⟩
   refine a3m rfl ?_
   have s:=hS.open_ .nil
   refine o7 (α:=ByteArray) (vs:=D46t7) (cs:=D46t7) (xs:=D46t8) s d El122 rfl rfl rfl rfl rfl rfl ⟨⟨_,rfl,rfl⟩,⟨⟨_,rfl,rfl⟩,⟨⟨_,rfl,rfl⟩,rfl⟩⟩⟩ rfl trivial rfl fun b40 a w s d=>?_
   have h_13:=N7 hc 13 hi rfl
   have d:=d.opt 0 rfl true
   exact nl ⟨b24,b40,b56,b8,k12,k28,k44,k60,p11,p27,p43,p59,S,hS.close .nil s rfl (.same (.same (.same (.same (.same (.same (.same (.same (.same (.same (.here (.same (.same (.neg h_13 rfl (.same (.same (.same (.same (.same (.same (.same .nil))))))))))))))))))))) 10 rfl,d.gt [1,2,3,4,0,6] [2,3,4,5,6,0,8,9,10] rfl rfl⟩
  ·intro l hi hp hc a w ⟨b24,b40,b56,b8,k12,k28,k44,k60,p11,p27,p43,p59,S,hS,d⟩
   refine T9 hS (.b (t:=0) rfl .nil) rfl rfl trivial (O5 rfl) (rfl) 11 rfl fun a hS=>⟨b24,b40,b56,b8,k12,k28,k44,k60,p11,p27,p43,p59,S,hS,d⟩
  ·intro l hi hp hc a w ⟨b24,b40,b56,b8,k12,k28,k44,k60,p11,p27,p43,p59,S,hS,d⟩
   have h_17:=N7 hc 17 hi rfl
   have h_7:=hp 7 rfl
   have d:=(d.fixR 1 (r':=.box b2 (C87 rv26.2 p27 k28) 87) rfl ((bF h_17).trans ((bF hi).trans ((bT h_7))))).yes 4 rfl h_7
   have h_11:=hp 11 rfl
   refine a3m rfl ?_
   have s:=hS.open_ (.v (t:=14) 11 rfl h_11 .nil)
   refine cR s (y5 h41 d.dom (d.ins [1] (by decide) rfl) (d.envAt 0 rfl)) (j3 call30 rfl) rfl ?_
   rintro v120 Sv117 w a h118 ⟨p43,k44,rfl,h121,h45⟩ s
   have d:=((d.callO [1] [0,2,3,4,5] (by decide) rfl h118 h121).addE (e:=Sq p43 k44 rv42.2.L) h45).fixR 0 (r':=(bif l 17 then .box b2 (C87 rv58.2 p59 k60) 87 else .box b2 (C87 rv42.2 p43 k44) 87)) rfl ((bF h_17)).symm
   have d:=d.opt 0 rfl true
   exact nl ⟨b24,b40,b56,b8,k12,k28,k44,k60,p11,p27,p43,p59,Sv117,hS.close (.v (t:=14) 11 rfl h_11 .nil) s rfl (.same (.same (.same (.same (.same (.same (.same (.same (.same (.same (.same (.same (.here (.same (.same (.same (.same (.same (.same (.same (.same .nil))))))))))))))))))))) 12 rfl,d.gt [1,0,2,3,4,5] [3,4,5,6,7,8,0,10,11] rfl rfl⟩
  ·intro l hi hp hc a w ⟨b24,b40,b56,b8,k12,k28,k44,k60,p11,p27,p43,p59,S,hS,d⟩
   have hw0:=d
   have h_10:=hp 10 rfl
   have d:=(d.fixR 4 (r':=.row (ad b40) b1a.length b1a.length Z5 9 1) rfl ((bT h_10))).yes 5 rfl h_10
   have h_12:=hp 12 rfl
   obtain ⟨c53,h49,h54,h47⟩:=d.elemRX (α:=ByteArray) 4 rfl 0 rfl h46
   obtain ⟨_,rfl,rfl⟩:=h47
   refine T9 hS (.v (t:=13) 10 rfl h_10 (.v (t:=15) 12 rfl h_12 .nil)) rfl rfl trivial (o6 runUnderlying122 sizeOf9 rfl rfl h49.1 h49.2 rfl) (rfl) 13 rfl fun a hS=>⟨b24,b40,b56,b8,k12,k28,k44,k60,p11,p27,p43,p59,S,hS,hw0⟩
  ·intro l hi hp hc a w ⟨b24,b40,b56,b8,k12,k28,k44,k60,p11,p27,p43,p59,S,hS,d⟩
   have hw0:=d
   have h_13:=hp 13 rfl
   have h_10:=hc 13 10 rfl h_13
   have d:=(d.fixR 4 (r':=.row (ad b40) b1a.length b1a.length Z5 9 1) rfl ((bT h_10))).yes 5 rfl h_10
   obtain ⟨c53,h49,h54,h47⟩:=d.elemRX (α:=ByteArray) 4 rfl 0 rfl h46
   obtain ⟨_,rfl,rfl⟩:=h47
   refine T9 hS (.v (t:=16) 13 rfl h_13 .nil) rfl rfl trivial (A7 (j:=0) (d.ownAt 4 rfl) rfl isAgg9 h54 rfl) (rfl) 14 rfl fun a hS=>⟨b24,b40,b56,b8,k12,k28,k44,k60,p11,p27,p43,p59,S,hS,hw0⟩
  ·intro l hi hp hc a w ⟨b24,b40,b56,b8,k12,k28,k44,k60,p11,p27,p43,p59,S,hS,d⟩
   refine a3m rfl ?_
   have s:=hS.open_ .nil
   refine o7 (α:=ByteArray) (vs:=D46t9) (cs:=D46t9) (xs:=D46t10) s d El122 rfl rfl rfl rfl rfl rfl ⟨⟨_,rfl,rfl⟩,⟨⟨_,rfl,rfl⟩,⟨⟨_,rfl,rfl⟩,rfl⟩⟩⟩ rfl trivial rfl fun b56 a w s d=>?_
   have h_18:=N7 hc 18 hi rfl
   have d:=d.opt 0 rfl true
   exact nl ⟨b24,b40,b56,b8,k12,k28,k44,k60,p11,p27,p43,p59,S,hS.close .nil s rfl (.same (.same (.same (.same (.same (.same (.same (.same (.same (.same (.same (.same (.same (.same (.same (.here (.same (.same (.neg h_18 rfl (.same (.same .nil))))))))))))))))))))) 15 rfl,d.gt [1,2,3,4,5,0] [2,3,4,5,6,7,8,0,10] rfl rfl⟩
  ·intro l hi hp hc a w ⟨b24,b40,b56,b8,k12,k28,k44,k60,p11,p27,p43,p59,S,hS,d⟩
   refine T9 hS (.b (t:=0) rfl .nil) rfl rfl trivial (O5 rfl) (rfl) 16 rfl fun a hS=>⟨b24,b40,b56,b8,k12,k28,k44,k60,p11,p27,p43,p59,S,hS,d⟩
  ·intro l hi hp hc a w ⟨b24,b40,b56,b8,k12,k28,k44,k60,p11,p27,p43,p59,S,hS,d⟩
   have h_12:=hp 12 rfl
   have d:=(d.fixR 1 (r':=.box b2 (C87 rv42.2 p43 k44) 87) rfl ((bF hi).trans ((bT h_12)))).yes 6 rfl h_12
   have h_16:=hp 16 rfl
   refine a3m rfl ?_
   have s:=hS.open_ (.v (t:=19) 16 rfl h_16 .nil)
   refine cR s (y5 h57 d.dom (d.ins [1] (by decide) rfl) (d.envAt 0 rfl)) (j3 call30 rfl) rfl ?_
   rintro v130 Sv127 w a h128 ⟨p59,k60,rfl,h131,h61⟩ s
   have d:=((d.callO [1] [0,2,3,4,5] (by decide) rfl h128 h131).addE (e:=Sq p59 k60 rv58.2.L) h61).opt 0 rfl true
   exact nl ⟨b24,b40,b56,b8,k12,k28,k44,k60,p11,p27,p43,p59,Sv127,hS.close (.v (t:=19) 16 rfl h_16 .nil) s rfl (.same (.same (.same (.same (.same (.same (.same (.same (.same (.same (.same (.same (.same (.same (.same (.same (.same (.here (.same (.same (.same .nil))))))))))))))))))))) 17 rfl,d.gt [1,0,2,3,4,5] [3,4,5,6,7,8,9,10,0] rfl rfl⟩
  ·intro l hi hp hc a w ⟨b24,b40,b56,b8,k12,k28,k44,k60,p11,p27,p43,p59,S,hS,d⟩
   have hw0:=d
   have h_15:=hp 15 rfl
   have d:=(d.fixR 5 (r':=.row (ad b56) b0Y.length b0Y.length Z6 9 1) rfl ((bT h_15))).yes 7 rfl h_15
   have h_17:=hp 17 rfl
   obtain ⟨c69,h65,h70,h63⟩:=d.elemRX (α:=ByteArray) 5 rfl 0 rfl h62
   obtain ⟨_,rfl,rfl⟩:=h63
   refine T9 hS (.v (t:=18) 15 rfl h_15 (.v (t:=20) 17 rfl h_17 .nil)) rfl rfl trivial (o6 runUnderlying122 sizeOf9 rfl rfl h65.1 h65.2 rfl) (rfl) 18 rfl fun a hS=>⟨b24,b40,b56,b8,k12,k28,k44,k60,p11,p27,p43,p59,S,hS,hw0⟩
  ·intro l hi hp hc a w ⟨b24,b40,b56,b8,k12,k28,k44,k60,p11,p27,p43,p59,S,hS,d⟩
   have hw0:=d
   have h_18:=hp 18 rfl
   have h_15:=hc 18 15 rfl h_18
   have d:=(d.fixR 5 (r':=.row (ad b56) b0Y.length b0Y.length Z6 9 1) rfl ((bT h_15))).yes 7 rfl h_15
   obtain ⟨c69,h65,h70,h63⟩:=d.elemRX (α:=ByteArray) 5 rfl 0 rfl h62
   obtain ⟨_,rfl,rfl⟩:=h63
   refine T9 hS (.v (t:=21) 18 rfl h_18 .nil) rfl rfl trivial (A7 (j:=0) (d.ownAt 5 rfl) rfl isAgg9 h70 rfl) (rfl) 19 rfl fun a hS=>⟨b24,b40,b56,b8,k12,k28,k44,k60,p11,p27,p43,p59,S,hS,hw0⟩
  ·intro l hi hp hc a w ⟨b24,b40,b56,b8,k12,k28,k44,k60,p11,p27,p43,p59,S,hS,d⟩
   have h_19:=hp 19 rfl
   have h_14:=hp 14 rfl
   have h_9:=hp 9 rfl
   have h_4:=hp 4 rfl
   refine T9 hS (.v (t:=7) 4 rfl h_4 (.v (t:=12) 9 rfl h_9 (.v (t:=17) 14 rfl h_14 (.v (t:=22) 19 rfl h_19 .nil)))) rfl rfl trivial (D7 (vs:=[(0,.string x16),(1,.string x32),(2,.string x48),(3,.string x64)]) Bld52 rfl rfl) (rfl) 20 rfl fun a hS=>⟨b24,b40,b56,b8,k12,k28,k44,k60,p11,p27,p43,p59,S,hS,d⟩
  ·intro l hi hp hc a w ⟨b24,b40,b56,b8,k12,k28,k44,k60,p11,p27,p43,p59,S,hS,d⟩
   have d:=d.fixR 0 (r':=.box b6 Z1 52) rfl ((bF hi))
   have h_20:=hp 20 rfl
   refine a3m rfl ?_
   have s:=hS.open_ (.b (t:=2) rfl (.v (t:=23) 20 rfl h_20 .nil))
   refine ws [.string x16,.string x32,.string x48,.string x64] s d 0 rfl rfl rfl sizeOf52 fun a w s d=>?_
   exact nl ⟨b24,b40,b56,b8,k12,k28,k44,k60,p11,p27,p43,p59,S,hS.close0 (.b (t:=2) rfl (.v (t:=23) 20 rfl h_20 .nil)) s rfl,d.gt [0,1,2,3,4,5] [0,1,2,3,4,5,6,7,8] rfl rfl⟩
  intro l a w hl ⟨b24,b40,b56,b8,k12,k28,k44,k60,p11,p27,p43,p59,S,hS,d⟩
  have d:=((d.yes 8 rfl (hl 17 (by decide))).fixR 1 (r':=.box b2 (C87 rv58.2 p59 k60) 87) rfl (bT (hl 17 (by decide)))).fixR 0 (r':=.box b6 [.string x16,.string x32,.string x48,.string x64] 52) rfl (bT (hl 21 (by decide)))
  have s:=hS.on (.b (t:=2) rfl .nil)
  exact ⟨S,k60,p59,wj s d [1,0] [0]⟩
 rintro a w ⟨Sv71,k60,p59,s,d⟩
 refine tn ?_
 obtain rfl:=oi u
 exact wp_ret (b2m s rfl (K4 d 1 rfl rfl isAgg52 sizeOf52 rfl) (d.ret ⟨p59,k60,rfl,(d.outs [0] (by decide) rfl),(d.envAt 0 rfl)⟩))
abbrev a9V (w0:World) (X:List Nat) (b2:Nat) (r:(Int × Dice)):(Nat→Prop)→World→Value→Prop:=fun S w v=>∃ pq0_0 kq0_0,v=iv r.1∧Outs X w0 S w [.box b2 (C87 r.2 pq0_0 kq0_0) 87]∧(Sq pq0_0 kq0_0 r.2.L).p S w
theorem D8 {w0 S0 b2 p3 k4 p7 k8 d1 l6 r} (u:F8 d1 l6=some r) (hS:Dm S0 w0) (hin:Ins S0 w0 [.box b2 (C87 d1 p3 k4) 87]) (h5:(Sq p3 k4 d1.L).p S0 w0) (h9:(Sq p7 k8 l6).p S0 w0):Calls Tryz.prog 24 #[pt b2,sl p7 k8 l6] w0 (Ret (I8 [.box b2 (C87 d1 p3 k4) 87]) w0 S0 (a9V w0 (I8 [.box b2 (C87 d1 p3 k4) 87]) b2 r)):=by
 refine enI 12 func24 rfl hS hin rfl rfl rfl fun a s d=>?_
 have d:=(d.addE h5).addE h9
 refine sz0 1 s rfl fun a s=>?_
 refine sn0 4 s rfl fun a s=>?_
 obtain ⟨rv11,h10,u⟩:=bt u
 refine cR s (y5 h10 d.dom (d.ins [0] (by decide) rfl) (d.envAt 1 rfl)) (j3 call30 rfl) rfl ?_
 rintro v18 Sv15 w a h16 ⟨p12,k13,rfl,h19,h14⟩ s
 have d:=(d.callO [0] [] (by decide) rfl h16 h19).addE (e:=Sq p12 k13 rv11.2.L) h14
 obtain ⟨x22,h20,u⟩:=bt u
 obtain ⟨b28,o29,q26,c27,h30,h23,h24,h25,h21⟩:=d.elemV 1 rfl h20
 have hsv31:=s
 have hwv32:=d
 subst h30
 have s:=hsv31
 have d:=hwv32
 obtain ⟨_,rfl,rfl⟩:=h21
 have d:=d.addE h25
 refine sv s (o6 runUnderlying22 sizeOf3 rfl rfl h23.1 h23.2 h24) rfl fun a s=>?_
 refine sv s (C8 (j:=0) (d.ceAt 0 rfl) rfl isAgg3 rfl) rfl fun a s=>?_
 refine rz0 1 s rfl fun a s=>?_
 obtain rfl:=oi u
 exact q1 s rfl (d.ret ⟨p12,k13,rfl,(d.outs [0] (by decide) rfl),(d.envAt 1 rfl)⟩)
theorem O1 {w0 S0 n1 lo2 hi3 r} (u:X6 n1 lo2 hi3=some r) (hS:Dm S0 w0):Ck Tryz.prog 61 #[iv n1,iv lo2,iv hi3] w0 S0 [] u6 r:=by
 refine en 15 func61 rfl hS rfl rfl rfl fun a s d=>?_
 refine sz0 1 s rfl fun a s=>?_
 refine sn0 4 s rfl fun a s=>?_
 refine rA 4 10 [] s d rfl rfl rfl rfl rfl fun a s=>?_
 refine rz0 1 s rfl fun a s=>?_
 obtain rfl:=oi u
 exact q1 s rfl (d.ret rfl)
theorem b0b {w0 S0 a1 b2 r} (u:a7i a1 b2=some r) (hS:Dm S0 w0):Ck Tryz.prog 103 #[iv a1,iv b2] w0 S0 [] j4 r:=by
 refine en 12 func103 rfl hS rfl rfl rfl fun a s d=>?_
 refine sz0 1 s rfl fun a s=>?_
 refine wp_seq ?_
 obtain ⟨e21,h32,u⟩:=bt u
 refine q8 (fun a w=>∃ Sv22,Sl 12 [(0,iv e21)] a∧Wd ⟨w0,S0,[]⟩ Sv22 [] [] w) ?_ ?_
 ·refine wp_block (u7 (fun sv3 a w=>∃ Sv13,Sl 12 [(0,iv sv3.1),(1,iv sv3.2)] a∧Wd ⟨w0,S0,[]⟩ Sv13 [] [] w) (a1,b2) h32 ⟨S0,wj s d [] []⟩ ?_)
  clear h32
  repeat clear u
  rintro sv3 a w tv19 ⟨Sv13,s,d⟩ u hd18
  refine wp_seq (sz0 2 s rfl fun a s=>?_)
  refine cd s u rfl (fun u=>?_) fun u=>?_
  ·refine sk (wp_block ?_)
   obtain ⟨rem29,h28,u⟩:=bt u
   refine A9 (fun a w=>∃ Sv30,Sl 12 [(0,iv sv3.2),(1,iv rem29)] a∧Wd ⟨w0,S0,[]⟩ Sv30 [] [] w) ?_ ?_
   ·refine h_c [] [] d rfl rfl (by kernel_rfl) rfl fun hC d=>?_
    refine gn 3 [0,1,2] [] s hC rfl rfl rfl fun a s=>?_
    refine gv s 3 rfl rfl hC (fun w hC=>b3Z rfl rfl h28) fun a s=>?_
    refine gn 2 [4,5] [] s hC rfl rfl rfl fun a s=>?_
    refine y7 (by kernel_rfl) ?_
    exact ⟨Sv13,wj s d [] []⟩
   rintro a w ⟨Sv30,s,d⟩
   exact l8 (tn ⟨_,io u,Sv30,wj s d [] []⟩)
  refine wp_exit (j5 (j5 (o9 ?_)))
  obtain rfl:=oi u
  have h31:=hd18 _ rfl
  subst h31
  exact tn ⟨Sv13,wj s d [] []⟩
 rintro a w ⟨Sv22,s,d⟩
 refine tn (sz0 2 s rfl fun a s=>?_)
 obtain rfl:=oi u
 exact q1 s rfl (d.ret rfl)
end Go.Proofs.YtdcafiefjakfeaaGreat.Wk

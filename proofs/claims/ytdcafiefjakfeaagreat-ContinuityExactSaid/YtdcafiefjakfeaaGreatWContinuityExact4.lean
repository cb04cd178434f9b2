/- The walks of ContinuityExact, part 4: each Go function computes what its plain program computes. Printed by a program of ours. -/
import Derived.Test.YtdcafiefjakfeaaGreatProg
import Derived.Test.YtdcafiefjakfeaaGreatDat
import Derived.Test.YtdcafiefjakfeaaGreatSh
import Derived.Test.YtdcafiefjakfeaaGreatLa1
import Derived.KernelRfl
import Derived.Test.YtdcafiefjakfeaaGreatLb1
import Derived.Shelf.SlLaysF0
import Derived.Shelf.SlLaysM
import Derived.Test.YtdcafiefjakfeaaGreatWContinuityExact3
namespace Go.Proofs.YtdcafiefjakfeaaGreat.Wk
open Go Go.RowKit Go.Proofs Go.Proofs.YtdcafiefjakfeaaGreat.Sh Go.Proofs.Tryz
set_option linter.unusedVariables false
set_option linter.unusedSimpArgs false
set_option maxHeartbeats 4000000
set_option maxRecDepth 100000
theorem a9a {w0 S0 b3 p4 k5 b9 b12 i1 x2 x8 x11 r} (u:a1f i1 x2 x8 x11=some r) (hS:Dm S0 w0) (h6:(CeA b3 0 (C56 x2 p4 k5)).p S0 w0) (h7:(Sq p4 k5 x2.Samples).p S0 w0) (h10:(CeA b9 0 [iv x8]).p S0 w0) (h13:(CeA b12 0 [iv x11]).p S0 w0):Ck Tryz.prog 144 #[iv i1,pt b3,pt b9,pt b12] w0 S0 [] u6 r:=by
 refine en 13 func144 rfl hS rfl rfl rfl fun a s d=>?_
 have d:=((d.addE h6).addE h7).addE h10
 have d:=d.addE h13
 refine sz0 1 s rfl fun a s=>?_
 refine wp_seq ?_
 obtain ⟨rv15,h14,u⟩:=bt u
 refine A9 (fun a w=>∃ Sv16,Sl 13 [(5,.bool (decide (x11≤rv15)))] a∧Wd ⟨w0,S0,[]⟩ Sv16 [] [] w) ?_ ?_
 ·refine h_c [] [0,1,3] d rfl rfl (by kernel_rfl) rfl fun hC d=>?_
  refine gv s 0 rfl rfl hC (fun w hC=>G5 (j:=0) (hC.ceAt 2 rfl) rfl isAgg56 sizeOf56 rfl rfl) fun a s=>?_
  refine gm s 1 rfl rfl rfl hC fun a s=>?_
  refine gv s 2 rfl rfl hC (fun w hC=>C8 (j:=0) (hC.ceAt 1 rfl) rfl isAgg3 rfl) fun a s=>?_
  refine gv s 3 rfl rfl hC (fun w hC=>a9j rfl rfl) fun a s=>?_
  refine gv s 5 rfl rfl hC (fun w hC=>C8 (j:=0) (hC.ceAt 0 rfl) rfl isAgg3 rfl) fun a s=>?_
  refine ho 4 rfl ?_
  refine cV s d (a2C h14 d.bdom (d.bE 2 rfl)) (j3 call107 rfl) rfl fun a w s d=>?_
  refine h_n [] [0,1,3] d rfl rfl fun hC=>?_
  refine gn 2 [6,7] [] s hC rfl rfl rfl fun a s=>?_
  refine y7 (by kernel_rfl) ?_
  exact ⟨S0,wj s d [] []⟩
 rintro a w ⟨Sv16,s,d⟩
 refine tn ?_
 obtain rfl:=oi u
 exact q1 s rfl (d.ret rfl)
theorem a8Z {S0 w0 b3 p4 k5 b9 b12 x2 x8 x11} (h6:(CeA b3 0 (C56 x2 p4 k5)).p S0 w0) (h7:(Sq p4 k5 x2.Samples).p S0 w0) (h10:(CeA b9 0 [iv x8]).p S0 w0) (h13:(CeA b12 0 [iv x11]).p S0 w0):(a5Q Tryz.prog 144 [] [pt b3,pt b9,pt b12] (fun y0=>a1f y0 x2 x8 x11)).p S0 w0:=by
  refine ⟨call144,?_⟩
  rintro S1 w1 hk hS c0 x0 r1 ⟨_,rfl,rfl⟩ hf
  exact a9a hf hS  (Asrt.mono _ hk h6) (Asrt.mono _ hk h7) (Asrt.mono _ hk h10) (Asrt.mono _ hk h13)
theorem b1r {w0 S0 p2 k3 r1 offset5 t6 r} (u:a5D r1 offset5 t6=some r) (hS:Dm S0 w0) (h4:(Sq p2 k3 r1.Samples).p S0 w0):Ck Tryz.prog 109 #[V56 r1 p2 k3,iv offset5,iv t6] w0 S0 [] j4 r:=by
 refine en 12 func109 rfl hS rfl rfl rfl fun a s d=>?_
 have d:=d.addE h4
 refine sr (wb (C56 r1 p2 k3) s d rfl fun b7 a w s d=>?_)
 refine wb [iv offset5] s d rfl fun b8 a w s d=>?_
 refine wb [iv t6] s d rfl fun b9 a w s d=>?_
 refine rz0 1 s rfl fun a s=>?_
 refine sn 3 [2] s d rfl rfl fun a s=>?_
 refine sv s (a9E (vs:=#[]) (us:=#[pt b7,pt b8,pt b9]) rfl rfl) rfl fun a s=>?_
 obtain ⟨rv11,h10,u⟩:=bt u
 refine cV s d (a8F h10 d.bdom (a8Z (d.bBox 2 rfl) (d.bE 0 rfl) (d.bBox 1 rfl) (d.bBox 0 rfl))) (j3 call105 rfl) rfl fun a w s d=>?_
 refine rz0 1 s rfl fun a s=>?_
 obtain rfl:=oi u
 exact q1 s rfl (d.ret rfl)
abbrev a4h (w0:World) (X:List Nat) (r:(Record × Bool × Int)):Rd:=fun S w v=>∃ p0_11 k0_11 c0_11,v=.tuple #[V56 r.1 p0_11 k0_11,.bool r.2.1,iv r.2.2]∧Outs X w0 S w [.row p0_11 r.1.Samples.length k0_11 c0_11 3 1]∧(l7 c0_11 r.1.Samples).p S w
theorem b2g {w0 S0 p2 k3 r1 from5 to6 r} (u:a6B r1 from5 to6=some r) (hS:Dm S0 w0) (h4:(Sq p2 k3 r1.Samples).p S0 w0):Ck Tryz.prog 108 #[V56 r1 p2 k3,iv from5,iv to6] w0 S0 [] a4h r:=by
 refine en 17 func108 rfl hS rfl rfl rfl fun a s d=>?_
 have d:=d.addE h4
 refine sr (wb (C56 r1 p2 k3) s d rfl fun b7 a w s d=>?_)
 refine wa Z0 s d zeroValue56 fun b8 a w s d=>?_
 refine rz0 2 s rfl fun a s=>?_
 refine wp_seq (sz0 3 s rfl fun a s=>?_)
 refine cd s u rfl (fun u=>?_) fun u=>?_
 ·refine sr (sv s (D7 (vs:=[]) a6s rfl rfl) rfl fun a s=>?_)
  refine ws Z0 s d 0 rfl rfl rfl sizeOf56 fun a w s d=>?_
  refine rz0 2 s rfl fun a s=>?_
  obtain rfl:=oi u
  have d:=d.nilRow Int 3
  exact wp_ret (j6 (ret3 s rfl (K4 d 1 rfl rfl isAgg56 sizeOf56 rfl) (q9 rfl) (q9 rfl) (d.ret ⟨none,0,[],rfl,(d.outs [0] (by decide) rfl),(d.envAt 0 rfl)⟩)))
 refine sk (sn 3 [1] s d rfl rfl fun a s=>?_)
 obtain ⟨rv12,h11,u⟩:=bt u
 refine cR s (a9e h11 d.dom (d.envAt 0 rfl)) (j3 call143 rfl) rfl ?_
 rintro v20 Sv17 w a h18 ⟨p13,k14,c16,rfl,h21,h15⟩ s
 have d:=(d.callN h18 h21).addE (e:=l7 c16 rv12.Samples) h15
 refine ws (C56 rv12 p13 k14) s d 1 rfl rfl rfl sizeOf56 fun a w s d=>?_
 refine rz0 2 s rfl fun a s=>?_
 obtain rfl:=oi u
 exact wp_ret (ret3 s rfl (K4 d 1 rfl rfl isAgg56 sizeOf56 rfl) (q9 rfl) (q9 rfl) (d.ret ⟨p13,k14,c16,rfl,(d.outs [0] (by decide) rfl),(d.envAt 0 rfl)⟩))
theorem b0K {w0 S0 p2 k3 r1 from5 to6 r} (u:a4T r1 from5 to6=some r) (hS:Dm S0 w0) (h4:(Sq p2 k3 r1.Samples).p S0 w0):Ck Tryz.prog 75 #[V56 r1 p2 k3,iv from5,iv to6] w0 S0 [] a4h r:=by
 refine en 28 func75 rfl hS rfl rfl rfl fun a s d=>?_
 have d:=d.addE h4
 refine sr (wb (C56 r1 p2 k3) s d rfl fun b7 a w s d=>?_)
 refine wb [iv to6] s d rfl fun b8 a w s d=>?_
 refine wa Z0 s d zeroValue56 fun b9 a w s d=>?_
 refine rz0 2 s rfl fun a s=>?_
 refine wp_seq (sn 1 [2] s d rfl rfl fun a s=>?_)
 obtain ⟨rv11,h10,u⟩:=bt u
 refine cV s d (a0a h10 d.bdom (d.bE 0 rfl)) (j3 call84 rfl) rfl fun a w s d=>?_
 refine rz0 1 s rfl fun a s=>?_
 refine cd s u rfl (fun u=>?_) fun u=>?_
 ·refine sr (sv s (D7 (vs:=[]) a6s rfl rfl) rfl fun a s=>?_)
  refine ws Z0 s d 0 rfl rfl rfl sizeOf56 fun a w s d=>?_
  refine rz0 2 s rfl fun a s=>?_
  obtain rfl:=oi u
  have d:=d.nilRow Int 3
  exact wp_ret (j6 (ret3 s rfl (K4 d 1 rfl rfl isAgg56 sizeOf56 rfl) (q9 rfl) (q9 rfl) (d.ret ⟨none,0,[],rfl,(d.outs [0] (by decide) rfl),(d.envAt 0 rfl)⟩)))
 refine sk (sn 3 [2] s d rfl rfl fun a s=>?_)
 refine sv s (a9E (vs:=#[]) (us:=#[pt b7,pt b8]) rfl rfl) rfl fun a s=>?_
 obtain ⟨rv20,h19,u⟩:=bt u
 refine cV s d (a8F h19 d.bdom (a8u (d.bBox 2 rfl) (d.bE 0 rfl) (d.bBox 1 rfl))) (j3 call105 rfl) rfl fun a w s d=>?_
 refine rz0 1 s rfl fun a s=>?_
 refine wp_seq ?_
 obtain ⟨rv27,h26,u⟩:=bt u
 obtain ⟨rv29,h28,u⟩:=bt u
 refine A9 (fun a w=>∃ Sv34 c33 k31 p30,Sl 28 [(6,pt b9),(7,.bool rv29.2.1),(8,iv rv29.2.2)] a∧Wd ⟨w0,S0,[]⟩ Sv34 [.box b9 (C56 rv29.1 p30 k31) 56,.row p30 rv29.1.Samples.length k31 c33 3 1] [l7 c33 rv29.1.Samples] w) ?_ ?_
 ·refine h_c [1,2] [] d rfl rfl (by kernel_rfl) rfl fun hC d=>?_
  refine gn 4 [0,1,2,4] [1,1] s hC rfl rfl rfl fun a s=>?_
  refine ho 3 rfl ?_
  refine cV s d (b1r h26 d.bdom (d.bE 0 rfl)) (j3 call109 rfl) rfl fun a w s d=>?_
  refine h_n [1,2] [] d rfl rfl fun hC=>?_
  refine ho 5 rfl ?_
  refine cR s (b2g h28 d.dom (d.envAt 0 rfl)) (j3 call108 rfl) rfl ?_
  rintro v43 Sv40 w a h41 ⟨p30,k31,c33,rfl,h44,h32⟩ s
  have d:=(d.callN h41 h44).addE (e:=l7 c33 rv29.1.Samples) h32
  refine h_n [2,3] [] d rfl rfl fun hC=>?_
  refine h_d [2,3,0] [] [0,1] [] d rfl rfl rfl rfl fun hC=>?_
  refine gn 3 [6,7,8] [] s hC rfl rfl rfl fun a s=>?_
  refine ho 9 rfl ?_
  refine ws (C56 rv29.1 p30 k31) s d 1 rfl rfl rfl sizeOf56 fun a w s d=>?_
  refine h_n [2,3,0] [] d rfl rfl fun hC=>?_
  refine gn 2 [10,11] [] s hC rfl rfl rfl fun a s=>?_
  refine y7 (by kernel_rfl) ?_
  exact ⟨Sv40,c33,k31,p30,wj s d [1,0] [0]⟩
 rintro a w ⟨Sv34,c33,k31,p30,s,d⟩
 refine tn ?_
 obtain rfl:=oi u
 exact wp_ret (ret3 s rfl (K4 d 0 rfl rfl isAgg56 sizeOf56 rfl) (q9 rfl) (q9 rfl) (d.ret ⟨p30,k31,c33,rfl,(d.outs [1] (by decide) rfl),(d.envAt 0 rfl)⟩))
theorem a8k {w0 S0 p2 k3 l1 from5 to6 r} (u:a2p l1 from5 to6=some r) (hS:Dm S0 w0) (h4:(Sq p2 k3 l1).p S0 w0):Ck Tryz.prog 33 #[sl p2 k3 l1,iv from5,iv to6] w0 S0 [] a0h r:=by
 refine en 48 func33 rfl hS rfl rfl rfl fun a s d=>?_
 have d:=d.addE h4
 refine sz0 2 s rfl fun a s=>?_
 refine wp_seq (sn0 1 s rfl fun a s=>?_)
 obtain ⟨rv8,h7,u⟩:=bt u
 refine cV s d (a0Q h7 d.bdom (d.bE 0 rfl) (a6P _ _)) (j3 call72 rfl) rfl fun a w s d=>?_
 refine nl (cd s u rfl (fun u=>?_) fun u=>?_)
 ·refine sz0 2 s rfl fun a s=>?_
  obtain rfl:=oi u
  have d:=d.nilRow Segment 64
  exact wp_ret (j6 (Q8 s rfl (q9 rfl) (q9 rfl) (d.ret ⟨none,0,[],rfl,(d.outs [0] (by decide) rfl),(d.envAt 0 rfl)⟩)))
 refine sk (wp_seq (sn0 2 s rfl fun a s=>?_))
 obtain ⟨rv17,h16,u⟩:=bt u
 refine cV s d (a5i h16 d.bdom) (j3 call74 rfl) rfl fun a w s d=>?_
 refine rz0 1 s rfl fun a s=>?_
 refine cd s u rfl (fun u=>?_) fun u=>?_
 ·refine sz0 2 s rfl fun a s=>?_
  obtain rfl:=oi u
  have d:=d.nilRow Segment 64
  exact wp_ret (j6 (Q8 s rfl (q9 rfl) (q9 rfl) (d.ret ⟨none,0,[],rfl,(d.outs [0] (by decide) rfl),(d.envAt 0 rfl)⟩)))
 refine sk (sz0 1 s rfl fun a s=>?_)
 refine wp_seq (sz0 3 s rfl fun a s=>?_)
 obtain ⟨e205,h333,u⟩:=bt u
 refine q8 (fun a w=>∃ c206 p207 k208 Sv209,Sl 48 [(8,sl p207 k208 e205)] a∧Wd ⟨w0,S0,[]⟩ Sv209 [.row p207 e205.length k208 c206 64 6] [l7 c206 e205] w) ?_ ?_
 ·refine wp_block ?_
  have d:=d.nilRow Segment 64
  refine u7 (fun sv25 a w=>∃ c142 p143 k144 Sv145,Sl 48 [(1,iv from5),(2,iv to6),(8,sl p143 k144 sv25.1),(20,sl p2 k3 l1),(21,iv (l1.length:Int)),(22,iv sv25.2)] a∧Wd ⟨w0,S0,[]⟩ Sv145 [.row p143 sv25.1.length k144 c142 64 6] [Sq p2 k3 l1,l7 c142 sv25.1] w) (([]:List Segment),0) h333 ⟨[],none,0,S0,wj s d [0] [1,0]⟩ ?_
  clear h333
  repeat clear u
  rintro sv25 a w tv203 ⟨c142,p143,k144,Sv145,s,d⟩ u hd202
  refine sz0 1 s rfl fun a s=>?_
  refine wp_seq (cd s u rfl (fun u=>?_) fun u=>?_)
  ·refine sk (wp_seq (wp_block (sr ?_)))
   obtain ⟨x269,h267,u⟩:=bt u
   obtain ⟨b275,o276,q273,c274,h277,h270,h271,h272,h268⟩:=d.elemV 0 rfl h267
   have hsv278:=s
   have hwv279:=d
   subst h277
   have s:=hsv278
   have d:=hwv279
   obtain ⟨_,_,_,_,_,_,rfl,rfl,rfl,rfl,rfl,rfl,⟨p280,n281,k282,rfl,h283⟩⟩:=h268
   obtain rfl:=h283.1
   have d:=(d.addE (e:=SlA p280 _ k282 x269.Samples) h283).addE h272
   refine sv s (o6 runUnderlying60 sizeOf64 rfl rfl h270.1 h270.2 h271) rfl fun a s=>?_
   refine sv s (G5 (j:=0) (d.ceAt 0 rfl) rfl isAgg64 sizeOf64 rfl rfl) rfl fun a s=>?_
   refine wa Z19 s d zeroValue64 fun b284 a w s d=>?_
   refine ws (C64 x269 p280 k282) s d 0 rfl rfl rfl sizeOf64 fun a w s d=>?_
   refine nl (sn 1 [0] s d rfl rfl fun a s=>?_)
   obtain ⟨rv286,h285,u⟩:=bt u
   refine cR s (a3Q h285 d.dom (d.envAt 1 rfl)) (j3 call76 rfl) rfl ?_
   rintro v293 Sv290 w a h291 ⟨p287,k288,rfl,h289⟩ s
   have d:=(d.call h291).addE (e:=Sq p287 k288 rv286.Samples) h289
   refine rn0 2 s rfl fun a s=>?_
   obtain ⟨rv296,h295,u⟩:=bt u
   refine cR s (b0K h295 d.dom (d.envAt 0 rfl)) (j3 call75 rfl) rfl ?_
   rintro v304 Sv301 w a h302 ⟨p297,k298,c300,rfl,h305,h299⟩ s
   have d:=(d.callN h302 h305).addE (e:=l7 c300 rv296.1.Samples) h299
   refine rn0 4 s rfl fun a s=>?_
   refine wa Z0 s d zeroValue56 fun b306 a w s d=>?_
   refine ws (C56 rv296.1 p297 k298) s d 0 rfl rfl rfl sizeOf56 fun a w s d=>?_
   refine rz0 2 s rfl fun a s=>?_
   refine sz0 1 s rfl fun a s=>?_
   refine q8 (fun a w=>∃ (out321:(List Segment)) (c317 p318 k319 Sv320:_),a0B sv25 out321=some tv203∧Sl 48 [(1,iv from5),(2,iv to6),(8,sl p318 k319 out321),(20,sl (some ⟨b275,o276,none⟩) k3 l1),(21,iv (l1.length:Int)),(22,iv sv25.2)] a∧Wd ⟨w0,S0,[]⟩ Sv320 [.row p318 out321.length k319 c317 64 6] [Sq (some ⟨b275,o276,none⟩) k3 l1,l7 c317 out321] w) ?_ ?_
   ·refine cd s u rfl (fun u=>?_) fun u=>?_
    ·refine wp_seq (A9 (fun a w=>∃ Sv323,Sl 48 [(1,iv from5),(2,iv to6),(8,sl p143 k144 sv25.1),(10,pt b284),(20,sl (some ⟨b275,o276,none⟩) k3 l1),(21,iv (l1.length:Int)),(22,iv sv25.2)] a∧Wd ⟨w0,S0,[]⟩ Sv323 [.box b284 (C64 ⟨x269.Start,rv296.1.First,x269.Rate,x269.Error,rv296.1.Samples⟩ p297 k298) 64,.row p143 sv25.1.length k144 c142 64 6,.row p297 rv296.1.Samples.length k298 c300 3 1] [Sq (some ⟨b275,o276,none⟩) k3 l1,l7 c142 sv25.1,l7 c300 rv296.1.Samples] w) ?_ ?_)
     ·refine h_c [0,1,3] [2] d rfl rfl (by kernel_rfl) rfl fun hC d=>?_
      refine gn 5 [0,1,2,3,4] [0,0] s hC rfl rfl rfl fun a s=>?_
      refine ho 5 rfl ?_
      refine ws (C64 ⟨x269.Start,rv296.1.First,x269.Rate,x269.Error,x269.Samples⟩ p280 k282) s d 2 rfl rfl rfl sizeOf3 fun a w s d=>?_
      refine h_n [0,1,3] [2] d rfl rfl fun hC=>?_
      refine gv s 6 rfl rfl hC (fun w hC=>l5 (o':=5) runUnderlying64 rfl sizeOf22 rfl rfl rfl) fun a s=>?_
      refine ho 7 rfl ?_
      refine ws (C64 ⟨x269.Start,rv296.1.First,x269.Rate,x269.Error,rv296.1.Samples⟩ p297 k298) s d 2 rfl rfl rfl sizeOf22 fun a w s d=>?_
      refine h_n [0,1,3] [2] d rfl rfl fun hC=>?_
      refine y7 (by kernel_rfl) ?_
      exact ⟨Sv301,wj s d [2,3,1] [4,5,0]⟩
     rintro a w ⟨Sv323,s,d⟩
     refine tn (wp_region_lit (rn 2 [0] s d rfl rfl fun a s=>?_))
     obtain ⟨Sv326,d⟩:=D6 (α:=Int) d 2 rfl 2 rfl
     refine o7 (α:=Segment) (vs:=[V64 ⟨x269.Start,rv296.1.First,x269.Rate,x269.Error,rv296.1.Samples⟩ p297 k298]) (cs:=(C64 ⟨x269.Start,rv296.1.First,x269.Rate,x269.Error,rv296.1.Samples⟩ p297 k298)) (xs:=([(⟨x269.Start,rv296.1.First,x269.Rate,x269.Error,rv296.1.Samples⟩:Segment)]:List Segment)) s d El60 rfl rfl rfl rfl rfl rfl ⟨⟨_,_,_,_,_,_,rfl,rfl,rfl,rfl,rfl,rfl,⟨_,_,_,rfl,d.envAt 0 rfl⟩⟩,rfl⟩ rfl trivial rfl fun b325 a w s d=>?_
     obtain ⟨l328,h327,u⟩:=bt u
     refine F4 (α:=Segment) s d El60 2 rfl rfl rfl 3 rfl 0 rfl 0 rfl h327 rfl trivial ?_
     intro p329 k330 c331 a w s d
     refine rz0 1 s rfl fun a s=>?_
     exact ⟨l328,c331,p329,k330,Sv326,u,wj s d [2] [3,0]⟩
    exact sk ⟨sv25.1,c142,p143,k144,Sv301,u,wj s d [3] [4,5]⟩
   rintro a w ⟨out321,c317,p318,k319,Sv320,u,s,d⟩
   refine l8 (tn (wp_region_lit (rz0 2 s rfl fun a s=>?_)))
   exact ⟨_,io u,c317,p318,k319,Sv320,wj s d [0] [0,1]⟩
  refine wp_exit (j5 (j5 (o9 ?_)))
  obtain rfl:=oi u
  have h332:=hd202 _ rfl
  subst h332
  exact tn ⟨c142,p143,k144,Sv145,wj s d [0] [1]⟩
 rintro a w ⟨c206,p207,k208,Sv209,s,d⟩
 refine tn (sz0 3 s rfl fun a s=>?_)
 obtain rfl:=oi u
 exact wp_ret (Q8 s rfl (q9 rfl) (q9 rfl) (d.ret ⟨p207,k208,c206,rfl,(d.outs [0] (by decide) rfl),(d.envAt 0 rfl)⟩))
abbrev a9l (p2:Option Addr) (k3:Nat) (r1:Record):List Asrt:=[Sq p2 k3 r1.Samples,Sq none 0 ([]:List Int)]
theorem b2L {w0 S0 p2 k3 r1 from5 to6 whole7 r} (u:a7R r1 from5 to6 whole7=some r) (hS:Dm S0 w0) (h4:(Sq p2 k3 r1.Samples).p S0 w0):Ck Tryz.prog 110 #[V56 r1 p2 k3,iv from5,iv to6,.bool whole7] w0 S0 [] a4h r:=by
 refine en 71 func110 rfl hS rfl rfl rfl fun a s d=>?_
 have d:=d.addE h4
 refine sr (wb (C56 r1 p2 k3) s d rfl fun b8 a w s d=>?_)
 refine wa Z0 s d zeroValue56 fun b9 a w s d=>?_
 refine rz0 2 s rfl fun a s=>?_
 refine wp_seq (sn 1 [1] s d rfl rfl fun a s=>?_)
 obtain ⟨rv11,h10,u⟩:=bt u
 refine cV s d (X8 h10 d.bdom (d.bE 0 rfl)) (j3 call60 rfl) rfl fun a w s d=>?_
 refine rz0 1 s rfl fun a s=>?_
 refine cd s u rfl (fun u=>?_) fun u=>?_
 ·refine sr (sv s (D7 (vs:=[]) a6s rfl rfl) rfl fun a s=>?_)
  refine ws Z0 s d 0 rfl rfl rfl sizeOf56 fun a w s d=>?_
  refine rz0 2 s rfl fun a s=>?_
  obtain rfl:=oi u
  have d:=d.nilRow Int 3
  exact wp_ret (j6 (ret3 s rfl (K4 d 1 rfl rfl isAgg56 sizeOf56 rfl) (q9 rfl) (q9 rfl) (d.ret ⟨none,0,[],rfl,(d.outs [0] (by decide) rfl),(d.envAt 0 rfl)⟩)))
 refine sk (sz0 2 s rfl fun a s=>?_)
 refine wp_seq (sz0 1 s rfl fun a s=>?_)
 obtain ⟨e208,h375,u⟩:=bt u
 refine q8 (fun a w=>∃ Sv209,Sl 71 [(4,pt b8),(8,pt b9),(11,iv e208.1),(12,iv e208.2)] a∧Wd ⟨w0,S0,[]⟩ Sv209 [.box b8 (C56 r1 p2 k3) 56,.box b9 Z0 56] (a9l p2 k3 r1) w) ?_ ?_
 ·refine wp_block ?_
  have d:=d.addE (e:=SlA (α:=Int) none 0 0 []) a2i
  refine u7 (fun sv19 a w=>∃ Sv143,Sl 71 [(1,iv from5),(2,iv to6),(3,.bool whole7),(4,pt b8),(8,pt b9),(11,iv sv19.1),(12,iv sv19.2.1),(13,iv sv19.2.2)] a∧Wd ⟨w0,S0,[]⟩ Sv143 [.box b8 (C56 r1 p2 k3) 56,.box b9 Z0 56] (a9l p2 k3 r1) w) ((-1),(-1),0) h375 ⟨S0,wj s d [1,0] [1,0]⟩ ?_
  clear h375
  repeat clear u
  rintro sv19 a w tv206 ⟨Sv143,s,d⟩ u hd205
  refine wp_seq (sz 5 [0] s d rfl rfl fun a s=>?_)
  refine cd s u rfl (fun u=>?_) fun u=>?_
  ·refine sk (wp_seq (wp_block (sn 2 [0] s d rfl rfl fun a s=>?_)))
   obtain ⟨rv271,h270,u⟩:=bt u
   refine cV s d (J9 h270 d.bdom (d.bE 0 rfl)) (j3 call62 rfl) rfl fun a w s d=>?_
   refine rn0 3 s rfl fun a s=>?_
   obtain ⟨c285,hc285,u⟩:=bt u
   refine C7 6 (fun a w=>∃ Sv286,Sl 71 [(1,iv from5),(2,iv to6),(3,.bool whole7),(4,pt b8),(8,pt b9),(11,iv sv19.1),(12,iv sv19.2.1),(13,iv sv19.2.2),(39,.bool c285)] a∧Wd ⟨w0,S0,[]⟩ Sv286 [.box b8 (C56 r1 p2 k3) 56,.box b9 Z0 56] (a9l p2 k3 r1) w) ?_ ?_
   ·rcases Bool.eq_false_or_eq_true (decide (from5≤rv271)) with h284 | h284
    ·have s:=s.bT 33 rfl h284
     have u:=E9 hc285 h284
     refine rn 2 [0] s d rfl rfl fun a s=>?_
     obtain ⟨rv288,h287,u⟩:=bt u
     refine x9 s (J9 h287 d.bdom (d.bE 0 rfl)) (j3 call62 rfl) ⟨_,rfl,rfl⟩ rfl rfl ?_
     rintro v292 Sv289 w a h290 rfl s
     have d:=d.callB h290
     refine rn0 3 s rfl fun a s=>?_
     refine wpList_nil ?_
     obtain rfl:=oi u
     exact tn ⟨Sv143,wj s d [0,1] [0,1]⟩
    have s:=s.bF 33 rfl h284
    have u:=F7 hc285 h284
    refine rn0 6 s rfl fun a s=>?_
    refine wpList_nil ?_
    obtain rfl:=oi u
    exact tn ⟨Sv143,wj s d [0,1] [0,1]⟩
   rintro a w ⟨Sv286,s,d⟩
   refine rz0 1 s rfl fun a s=>?_
   refine wp_seq (sz0 1 s rfl fun a s=>?_)
   refine q8 (fun a w=>∃ (inv320:Bool) (Sv319:_),a2c sv19 inv320=some tv206∧Sl 71 [(1,iv from5),(2,iv to6),(3,.bool whole7),(4,pt b8),(8,pt b9),(11,iv sv19.1),(12,iv sv19.2.1),(13,iv sv19.2.2),(14,.bool inv320)] a∧Wd ⟨w0,S0,[]⟩ Sv319 [.box b8 (C56 r1 p2 k3) 56,.box b9 Z0 56] (a9l p2 k3 r1) w) ?_ ?_
   ·refine cd s u rfl (fun u=>?_) fun u=>?_
    ·refine wp_region_lit (rn 2 [0] s d rfl rfl fun a s=>?_)
     obtain ⟨rv337,h336,u⟩:=bt u
     refine cV s d (J9 h336 d.bdom (d.bE 0 rfl)) (j3 call62 rfl) rfl fun a w s d=>?_
     refine rn0 3 s rfl fun a s=>?_
     obtain ⟨c351,hc351,u⟩:=bt u
     refine C7 7 (fun a w=>∃ Sv352,Sl 71 [(1,iv from5),(2,iv to6),(3,.bool whole7),(4,pt b8),(8,pt b9),(11,iv sv19.1),(12,iv sv19.2.1),(13,iv sv19.2.2),(53,.bool c351)] a∧Wd ⟨w0,S0,[]⟩ Sv352 [.box b8 (C56 r1 p2 k3) 56,.box b9 Z0 56] (a9l p2 k3 r1) w) ?_ ?_
     ·rcases Bool.eq_false_or_eq_true (decide (from5≤rv337)) with h350 | h350
      ·have s:=s.bT 46 rfl h350
       have u:=E9 hc351 h350
       refine rn 3 [0] s d rfl rfl fun a s=>?_
       obtain ⟨rv354,h353,u⟩:=bt u
       refine x9 s (J9 h353 d.bdom (d.bE 0 rfl)) (j3 call62 rfl) ⟨_,rfl,rfl⟩ rfl rfl ?_
       rintro v358 Sv355 w a h356 rfl s
       have d:=d.callB h356
       refine rn0 3 s rfl fun a s=>?_
       refine wpList_nil ?_
       obtain rfl:=oi u
       exact tn ⟨Sv286,wj s d [0,1] [0,1]⟩
      have s:=s.bF 46 rfl h350
      have u:=F7 hc351 h350
      refine rn0 7 s rfl fun a s=>?_
      refine wpList_nil ?_
      obtain rfl:=oi u
      exact tn ⟨Sv286,wj s d [0,1] [0,1]⟩
     rintro a w ⟨Sv352,s,d⟩
     refine rz0 1 s rfl fun a s=>?_
     exact ⟨c351,Sv352,u,wj s d [0,1] [0,1]⟩
    exact sk ⟨c285,Sv286,u,wj s d [0,1] [0,1]⟩
   rintro a w ⟨inv320,Sv319,u,s,d⟩
   refine tn (sz0 1 s rfl fun a s=>?_)
   refine q8 (fun a w=>∃ (first326:Int) (last327:Int) (Sv325:_),a2d sv19 first326 last327=some tv206∧Sl 71 [(1,iv from5),(2,iv to6),(3,.bool whole7),(4,pt b8),(8,pt b9),(11,iv first326),(12,iv last327),(13,iv sv19.2.2)] a∧Wd ⟨w0,S0,[]⟩ Sv325 [.box b8 (C56 r1 p2 k3) 56,.box b9 Z0 56] (a9l p2 k3 r1) w) ?_ ?_
   ·refine cd s u rfl (fun u=>?_) fun u=>?_
    ·refine wp_seq (sz0 2 s rfl fun a s=>?_)
     refine q8 (fun a w=>∃ (first333:Int) (Sv332:_),a3w sv19 first333=some tv206∧Sl 71 [(1,iv from5),(2,iv to6),(3,.bool whole7),(4,pt b8),(8,pt b9),(11,iv first333),(13,iv sv19.2.2)] a∧Wd ⟨w0,S0,[]⟩ Sv332 [.box b8 (C56 r1 p2 k3) 56,.box b9 Z0 56] (a9l p2 k3 r1) w) ?_ ?_
     ·refine cd s u rfl (fun u=>?_) fun u=>?_
      ·refine wp_region_lit (rz0 2 s rfl fun a s=>?_)
       exact ⟨sv19.2.2,Sv319,u,wj s d [0,1] [0,1]⟩
      exact sk ⟨sv19.1,Sv319,u,wj s d [0,1] [0,1]⟩
     rintro a w ⟨first333,Sv332,u,s,d⟩
     refine tn (wp_region_lit (rz0 2 s rfl fun a s=>?_))
     exact ⟨first333,sv19.2.2,Sv332,u,wj s d [0,1] [0,1]⟩
    exact sk ⟨sv19.1,sv19.2.1,Sv319,u,wj s d [0,1] [0,1]⟩
   rintro a w ⟨first326,last327,Sv325,u,s,d⟩
   refine l8 (tn (wp_region_lit (rn0 2 s rfl fun a s=>?_)))
   obtain ⟨i329,h328,u⟩:=bt u
   refine sv s (o8 rfl h328) rfl fun a s=>?_
   exact nl ⟨_,io u,Sv325,wj s d [0,1] [0,1]⟩
  refine wp_exit (j5 (j5 (o9 ?_)))
  obtain rfl:=oi u
  have h360:=hd205 _ rfl
  subst h360
  exact tn ⟨Sv143,wj s d [0,1] [0,1]⟩
 rintro a w ⟨Sv209,s,d⟩
 refine tn (wp_seq (sz0 2 s rfl fun a s=>?_))
 refine cd s u rfl (fun u=>?_) fun u=>?_
 ·refine sr (sv s (D7 (vs:=[]) a6s rfl rfl) rfl fun a s=>?_)
  refine ws Z0 s d 1 rfl rfl rfl sizeOf56 fun a w s d=>?_
  refine rz0 2 s rfl fun a s=>?_
  obtain rfl:=oi u
  have d:=d.nilRow Int 3
  exact wp_ret (j6 (ret3 s rfl (K4 d 2 rfl rfl isAgg56 sizeOf56 rfl) (q9 rfl) (q9 rfl) (d.ret ⟨none,0,[],rfl,(d.outs [0] (by decide) rfl),(d.envAt 0 rfl)⟩)))
 refine sk (sn 4 [0] s d rfl rfl fun a s=>?_)
 obtain ⟨rv364,h363,u⟩:=bt u
 refine cR s (b0c h363 d.dom (d.envAt 0 rfl)) (j3 call68 rfl) rfl ?_
 rintro v372 Sv369 w a h370 ⟨p365,k366,c368,rfl,h373,h367⟩ s
 have d:=(d.callN h370 h373).addE (e:=l7 c368 rv364.1.Samples) h367
 refine rn0 3 s rfl fun a s=>?_
 refine wa Z0 s d zeroValue56 fun b374 a w s d=>?_
 refine ws (C56 rv364.1 p365 k366) s d 0 rfl rfl rfl sizeOf56 fun a w s d=>?_
 refine rz0 1 s rfl fun a s=>?_
 refine sn 1 [0] s d rfl rfl fun a s=>?_
 refine ws (C56 rv364.1 p365 k366) s d 3 rfl rfl rfl sizeOf56 fun a w s d=>?_
 refine rz0 2 s rfl fun a s=>?_
 obtain rfl:=oi u
 exact wp_ret (ret3 s rfl (K4 d 3 rfl rfl isAgg56 sizeOf56 rfl) (q9 rfl) (q9 rfl) (d.ret ⟨p365,k366,c368,rfl,(d.outs [1] (by decide) rfl),(d.envAt 0 rfl)⟩))
theorem b1u {w0 S0 p2 k3 r1 from5 to6 r} (u:a5G r1 from5 to6=some r) (hS:Dm S0 w0) (h4:(Sq p2 k3 r1.Samples).p S0 w0):Ck Tryz.prog 82 #[V56 r1 p2 k3,iv from5,iv to6] w0 S0 [] a4h r:=by
 refine en 16 func82 rfl hS rfl rfl rfl fun a s d=>?_
 have d:=d.addE h4
 refine sr (wb (C56 r1 p2 k3) s d rfl fun b7 a w s d=>?_)
 refine wa Z0 s d zeroValue56 fun b8 a w s d=>?_
 refine rz0 2 s rfl fun a s=>?_
 refine sn 3 [1] s d rfl rfl fun a s=>?_
 obtain ⟨rv10,h9,u⟩:=bt u
 refine cR s (b2L h9 d.dom (d.envAt 0 rfl)) (j3 call110 rfl) rfl ?_
 rintro v18 Sv15 w a h16 ⟨p11,k12,c14,rfl,h19,h13⟩ s
 have d:=(d.callN h16 h19).addE (e:=l7 c14 rv10.1.Samples) h13
 refine rn0 3 s rfl fun a s=>?_
 refine ws (C56 rv10.1 p11 k12) s d 1 rfl rfl rfl sizeOf56 fun a w s d=>?_
 refine rz0 2 s rfl fun a s=>?_
 obtain rfl:=oi u
 exact wp_ret (ret3 s rfl (K4 d 1 rfl rfl isAgg56 sizeOf56 rfl) (q9 rfl) (q9 rfl) (d.ret ⟨p11,k12,c14,rfl,(d.outs [0] (by decide) rfl),(d.envAt 0 rfl)⟩))
theorem b1v {w0 S0 p2 k3 l1 from5 to6 r} (u:a3i l1 from5 to6=some r) (hS:Dm S0 w0) (h4:(Sq p2 k3 l1).p S0 w0):Ck Tryz.prog 42 #[sl p2 k3 l1,iv from5,iv to6] w0 S0 [] a0h r:=by
 refine en 71 func42 rfl hS rfl rfl rfl fun a s d=>?_
 have d:=d.addE h4
 refine sz0 2 s rfl fun a s=>?_
 refine wp_seq (sz0 1 s rfl fun a s=>?_)
 refine wp_block (u7 (fun sv125 a w=>∃ Sv183,Sl 71 [(0,sl p2 k3 l1),(1,iv from5),(2,iv to6),(8,iv sv125)] a∧Wd ⟨w0,S0,[]⟩ Sv183 [] [Sq p2 k3 l1] w) 0 u ⟨S0,wj s d [] [0]⟩ ?_)
 repeat clear u
 rintro sv125 a w tv213 ⟨Sv183,s,d⟩ u hd212
 refine wp_seq (sz0 4 s rfl fun a s=>?_)
 refine cd s u rfl (fun u=>?_) fun u=>?_
 ·refine sk (wp_seq (wp_block (sn0 2 s rfl fun a s=>?_)))
  obtain ⟨x245,h243,u⟩:=bt u
  obtain ⟨b251,o252,q249,c250,h253,h246,h247,h248,h244⟩:=d.elemV 0 rfl h243
  have hsv254:=s
  have hwv255:=d
  subst h253
  have s:=hsv254
  have d:=hwv255
  obtain ⟨_,_,_,_,_,_,rfl,rfl,rfl,rfl,rfl,rfl,⟨p256,n257,k258,rfl,h259⟩⟩:=h244
  obtain rfl:=h259.1
  have d:=(d.addE (e:=SlA p256 _ k258 x245.Samples) h259).addE h248
  refine sv s (o6 runUnderlying60 sizeOf64 rfl rfl h246.1 h246.2 h247) rfl fun a s=>?_
  refine sv s (G5 (j:=0) (d.ceAt 0 rfl) rfl isAgg64 sizeOf64 rfl rfl) rfl fun a s=>?_
  obtain ⟨rv261,h260,u⟩:=bt u
  refine cV s d (a2m h260 d.bdom (d.bE 1 rfl)) (j3 call27 rfl) rfl fun a w s d=>?_
  refine rz0 1 s rfl fun a s=>?_
  refine cd s u rfl (fun u=>?_) fun u=>?_
  ·refine sz0 2 s rfl fun a s=>?_
   obtain rfl:=oi u
   have h269:=hd212 _ rfl
   subst h269
   have d:=d.nilRow Segment 64
   exact wp_ret (A8 (j6 (j6 (A8 (j6 (Q8 s rfl (q9 rfl) (q9 rfl) (d.ret ⟨none,0,[],rfl,(d.outs [0] (by decide) rfl),(d.envAt 0 rfl)⟩)))))))
  refine wp_skip (l8 (tn (wp_region_lit (rn0 2 s rfl fun a s=>?_))))
  obtain ⟨i271,h270,u⟩:=bt u
  refine sv s (o8 rfl h270) rfl fun a s=>?_
  exact nl ⟨_,io u,Sv183,wj s d [] [2]⟩
 obtain ⟨rv582,u,h583⟩:=a0x u
 have h583:=(hd212 _ h583.symm).symm
 subst h583
 refine wp_exit (j5 (j5 (o9 (tn (wp_seq (sn0 3 s rfl fun a s=>?_))))))
 refine rO 4 28 [] s d rfl rfl rfl rfl rfl fun a s=>?_
 refine mv s rfl rfl fun a s=>?_
 refine rO 3 33 [] s d rfl rfl rfl rfl rfl fun a s=>?_
 refine nl (cd s u rfl (fun u=>?_) fun u=>?_)
 ·refine sz0 2 s rfl fun a s=>?_
  obtain rfl:=oi u
  have d:=d.nilRow Segment 64
  exact wp_ret (j6 (Q8 s rfl (q9 rfl) (q9 rfl) (d.ret ⟨none,0,[],rfl,(d.outs [0] (by decide) rfl),(d.envAt 0 rfl)⟩)))
 refine sk (sz0 1 s rfl fun a s=>?_)
 refine wp_seq (sz0 1 s rfl fun a s=>?_)
 obtain ⟨e456,h581,u⟩:=bt u
 refine q8 (fun a w=>∃ c457 p458 k459 Sv460,Sl 71 [(9,sl p458 k459 e456)] a∧Wd ⟨w0,S0,[]⟩ Sv460 [.row p458 e456.length k459 c457 64 6] [l7 c457 e456] w) ?_ ?_
 ·refine wp_block ?_
  have d:=d.nilRow Segment 64
  refine u7 (fun sv276 a w=>∃ c393 p394 k395 Sv396,Sl 71 [(0,sl p2 k3 l1),(1,iv from5),(2,iv to6),(9,sl p394 k395 sv276.1),(10,iv sv276.2)] a∧Wd ⟨w0,S0,[]⟩ Sv396 [.row p394 sv276.1.length k395 c393 64 6] [Sq p2 k3 l1,l7 c393 sv276.1] w) (([]:List Segment),0) h581 ⟨[],none,0,Sv183,wj s d [0] [1,0]⟩ ?_
  clear h581
  repeat clear u
  rintro sv276 a w tv454 ⟨c393,p394,k395,Sv396,s,d⟩ u hd453
  refine wp_seq (sz0 4 s rfl fun a s=>?_)
  refine cd s u rfl (fun u=>?_) fun u=>?_
  ·refine sk (wp_seq (wp_block (sn0 2 s rfl fun a s=>?_)))
   obtain ⟨x518,h516,u⟩:=bt u
   obtain ⟨b524,o525,q522,c523,h526,h519,h520,h521,h517⟩:=d.elemV 0 rfl h516
   have hsv527:=s
   have hwv528:=d
   subst h526
   have s:=hsv527
   have d:=hwv528
   obtain ⟨_,_,_,_,_,_,rfl,rfl,rfl,rfl,rfl,rfl,⟨p529,n530,k531,rfl,h532⟩⟩:=h517
   obtain rfl:=h532.1
   have d:=(d.addE (e:=SlA p529 _ k531 x518.Samples) h532).addE h521
   refine sv s (o6 runUnderlying60 sizeOf64 rfl rfl h519.1 h519.2 h520) rfl fun a s=>?_
   refine sv s (G5 (j:=0) (d.ceAt 0 rfl) rfl isAgg64 sizeOf64 rfl rfl) rfl fun a s=>?_
   obtain ⟨rv534,h533,u⟩:=bt u
   refine cR s (a4q h533 d.dom (d.envAt 1 rfl)) (j3 call69 rfl) rfl ?_
   rintro v541 Sv538 w a h539 ⟨p535,k536,rfl,h537⟩ s
   have d:=(d.call h539).addE (e:=Sq p535 k536 rv534.Samples) h537
   refine rn0 2 s rfl fun a s=>?_
   obtain ⟨rv544,h543,u⟩:=bt u
   refine cR s (b1u h543 d.dom (d.envAt 0 rfl)) (j3 call82 rfl) rfl ?_
   rintro v552 Sv549 w a h550 ⟨p545,k546,c548,rfl,h553,h547⟩ s
   have d:=(d.callN h550 h553).addE (e:=l7 c548 rv544.1.Samples) h547
   refine rn0 4 s rfl fun a s=>?_
   refine wa Z0 s d zeroValue56 fun b554 a w s d=>?_
   refine ws (C56 rv544.1 p545 k546) s d 0 rfl rfl rfl sizeOf56 fun a w s d=>?_
   refine rz0 2 s rfl fun a s=>?_
   refine sz0 1 s rfl fun a s=>?_
   refine q8 (fun a w=>∃ (out568:(List Segment)) (c564 p565 k566 Sv567:_),a3M sv276 out568=some tv454∧Sl 71 [(0,sl (some ⟨b524,o525,none⟩) k3 l1),(1,iv from5),(2,iv to6),(9,sl p565 k566 out568),(10,iv sv276.2)] a∧Wd ⟨w0,S0,[]⟩ Sv567 [.row p565 out568.length k566 c564 64 6] [Sq (some ⟨b524,o525,none⟩) k3 l1,l7 c564 out568] w) ?_ ?_
   ·refine cd s u rfl (fun u=>?_) fun u=>?_
    ·refine wp_region_lit (rn 11 [0,0,0,0,0] s d rfl rfl fun a s=>?_)
     refine sv s (D7 (vs:=[(0,iv rv544.1.Start),(1,iv rv544.1.First),(2,V54 rv544.1.Rate),(3,iv rv544.1.Error),(4,sl p545 k546 rv544.1.Samples)]) Bld64 rfl rfl) rfl fun a s=>?_
     obtain ⟨Sv574,d⟩:=D6 (α:=Int) d 1 rfl 0 rfl
     refine o7 (α:=Segment) (vs:=[V64 ⟨rv544.1.Start,rv544.1.First,rv544.1.Rate,rv544.1.Error,rv544.1.Samples⟩ p545 k546]) (cs:=(C64 ⟨rv544.1.Start,rv544.1.First,rv544.1.Rate,rv544.1.Error,rv544.1.Samples⟩ p545 k546)) (xs:=([(⟨rv544.1.Start,rv544.1.First,rv544.1.Rate,rv544.1.Error,rv544.1.Samples⟩:Segment)]:List Segment)) s d El60 rfl rfl rfl rfl rfl rfl ⟨⟨_,_,_,_,_,_,rfl,rfl,rfl,rfl,rfl,rfl,⟨_,_,_,rfl,d.envAt 0 rfl⟩⟩,rfl⟩ rfl trivial rfl fun b573 a w s d=>?_
     obtain ⟨l576,h575,u⟩:=bt u
     refine F4 (α:=Segment) s d El60 2 rfl rfl rfl 7 rfl 0 rfl 0 rfl h575 rfl trivial ?_
     intro p577 k578 c579 a w s d
     refine rz0 1 s rfl fun a s=>?_
     exact ⟨l576,c579,p577,k578,Sv574,u,wj s d [2] [7,0]⟩
    exact sk ⟨sv276.1,c393,p394,k395,Sv549,u,wj s d [2] [4,5]⟩
   rintro a w ⟨out568,c564,p565,k566,Sv567,u,s,d⟩
   refine l8 (tn (wp_region_lit (rn0 2 s rfl fun a s=>?_)))
   obtain ⟨i570,h569,u⟩:=bt u
   refine sv s (o8 rfl h569) rfl fun a s=>?_
   exact nl ⟨_,io u,c564,p565,k566,Sv567,wj s d [0] [0,1]⟩
  refine wp_exit (j5 (j5 (o9 ?_)))
  obtain rfl:=oi u
  have h580:=hd453 _ rfl
  subst h580
  exact tn ⟨c393,p394,k395,Sv396,wj s d [0] [1]⟩
 rintro a w ⟨c457,p458,k459,Sv460,s,d⟩
 refine tn (sz0 3 s rfl fun a s=>?_)
 obtain rfl:=oi u
 exact wp_ret (Q8 s rfl (q9 rfl) (q9 rfl) (d.ret ⟨p458,k459,c457,rfl,(d.outs [0] (by decide) rfl),(d.envAt 0 rfl)⟩))
theorem b2f {w0 S0 p2 k3 r1 r} (u:a5n r1=some r) (hS:Dm S0 w0) (h4:(Sq p2 k3 r1.Samples).p S0 w0):Ck Tryz.prog 83 #[V56 r1 p2 k3] w0 S0 [] a5f r:=by
 refine en 16 func83 rfl hS rfl rfl rfl fun a s d=>?_
 have d:=d.addE h4
 refine sr (wb (C56 r1 p2 k3) s d rfl fun b5 a w s d=>?_)
 refine wa [iv 0,iv 0] s d zeroValue71 fun b6 a w s d=>?_
 refine rz0 1 s rfl fun a s=>?_
 refine wp_seq (sn 1 [1] s d rfl rfl fun a s=>?_)
 obtain ⟨rv8,h7,u⟩:=bt u
 refine cV s d (a0a h7 d.bdom (d.bE 0 rfl)) (j3 call84 rfl) rfl fun a w s d=>?_
 refine rz0 1 s rfl fun a s=>?_
 refine cd s u rfl (fun u=>?_) fun u=>?_
 ·refine sr (sv s (D7 (vs:=[]) a6t rfl rfl) rfl fun a s=>?_)
  refine ws [iv 0,iv 0] s d 0 rfl rfl rfl sizeOf71 fun a w s d=>?_
  refine rz0 1 s rfl fun a s=>?_
  obtain rfl:=oi u
  exact wp_ret (j6 (Q8 s rfl (K4 d 0 rfl rfl isAgg71 sizeOf71 rfl) (q9 rfl) (d.ret rfl)))
 refine sk (wp_seq ?_)
 obtain ⟨rv17,h16,u⟩:=bt u
 obtain ⟨rv19,h18,u⟩:=bt u
 refine A9 (fun a w=>∃ Sv20,Sl 16 [(2,pt b6),(3,iv 0)] a∧Wd ⟨w0,S0,[]⟩ Sv20 [.box b6 [iv rv17,iv rv19] 71] [] w) ?_ ?_
 ·refine h_c [1] [] d rfl rfl (by kernel_rfl) rfl fun hC d=>?_
  refine gn 5 [0,2,3,4,5] [0,0,0] s hC rfl rfl rfl fun a s=>?_
  refine ho 1 rfl ?_
  refine cV s d (a2C h16 d.bdom (d.bE 0 rfl)) (j3 call107 rfl) rfl fun a w s d=>?_
  refine h_n [1] [] d rfl rfl fun hC=>?_
  refine ho 6 rfl ?_
  refine cV s d (a2C h18 d.bdom (d.bE 0 rfl)) (j3 call107 rfl) rfl fun a w s d=>?_
  refine h_n [1] [] d rfl rfl fun hC=>?_
  refine gv s 7 rfl rfl hC (fun w hC=>D7 (vs:=[(0,iv rv17),(1,iv rv19)]) a6t rfl rfl) fun a s=>?_
  refine ho 8 rfl ?_
  refine ws [iv rv17,iv rv19] s d 0 rfl rfl rfl sizeOf71 fun a w s d=>?_
  refine h_n [1] [] d rfl rfl fun hC=>?_
  refine gv s 9 rfl rfl hC (fun w hC=>R8 rfl) fun a s=>?_
  refine y7 (by kernel_rfl) ?_
  exact ⟨S0,wj s d [0] []⟩
 rintro a w ⟨Sv20,s,d⟩
 refine tn ?_
 obtain rfl:=oi u
 exact wp_ret (Q8 s rfl (K4 d 0 rfl rfl isAgg71 sizeOf71 rfl) (q9 rfl) (d.ret rfl))
theorem a6l {w0 S0 p2 k3 s1 r} (u:a0g s1=some r) (hS:Dm S0 w0) (h4:(Sq p2 k3 s1.Samples).p S0 w0):Ck Tryz.prog 43 #[V64 s1 p2 k3] w0 S0 [] a5f r:=by
 refine en 9 func43 rfl hS rfl rfl rfl fun a s d=>?_
 have d:=d.addE h4
 refine sr (wb (C64 s1 p2 k3) s d rfl fun b5 a w s d=>?_)
 refine wa [iv 0,iv 0] s d zeroValue71 fun b6 a w s d=>?_
 refine rz0 1 s rfl fun a s=>?_
 refine sn 1 [1] s d rfl rfl fun a s=>?_
 obtain ⟨rv8,h7,u⟩:=bt u
 refine cR s (a3Q h7 d.dom (d.envAt 0 rfl)) (j3 call76 rfl) rfl ?_
 rintro v15 Sv12 w a h13 ⟨p9,k10,rfl,h11⟩ s
 have d:=(d.call h13).addE (e:=Sq p9 k10 rv8.Samples) h11
 obtain ⟨rv18,h17,u⟩:=bt u
 refine cV s d (b2f h17 d.bdom (d.bE 0 rfl)) (j3 call83 rfl) rfl fun a w s d=>?_
 refine rn0 2 s rfl fun a s=>?_
 refine ws (C71 rv18.1) s d 0 rfl rfl rfl sizeOf71 fun a w s d=>?_
 refine rz0 1 s rfl fun a s=>?_
 obtain rfl:=oi u
 exact wp_ret (Q8 s rfl (K4 d 0 rfl rfl isAgg71 sizeOf71 rfl) (q9 rfl) (d.ret rfl))
theorem a8z {w0 S0 p2 k3 s1 r} (u:a2v s1=some r) (hS:Dm S0 w0) (h4:(Sq p2 k3 s1.Samples).p S0 w0):Ck Tryz.prog 44 #[V64 s1 p2 k3] w0 S0 [] a5f r:=by
 refine en 9 func44 rfl hS rfl rfl rfl fun a s d=>?_
 have d:=d.addE h4
 refine sr (wb (C64 s1 p2 k3) s d rfl fun b5 a w s d=>?_)
 refine wa [iv 0,iv 0] s d zeroValue71 fun b6 a w s d=>?_
 refine rz0 1 s rfl fun a s=>?_
 refine sn 1 [1] s d rfl rfl fun a s=>?_
 obtain ⟨rv8,h7,u⟩:=bt u
 refine cR s (a4q h7 d.dom (d.envAt 0 rfl)) (j3 call69 rfl) rfl ?_
 rintro v15 Sv12 w a h13 ⟨p9,k10,rfl,h11⟩ s
 have d:=(d.call h13).addE (e:=Sq p9 k10 rv8.Samples) h11
 obtain ⟨rv18,h17,u⟩:=bt u
 refine cV s d (a5e h17 d.bdom (d.bE 0 rfl)) (j3 call31 rfl) rfl fun a w s d=>?_
 refine rn0 2 s rfl fun a s=>?_
 refine ws (C71 rv18.1) s d 0 rfl rfl rfl sizeOf71 fun a w s d=>?_
 refine rz0 1 s rfl fun a s=>?_
 obtain rfl:=oi u
 exact wp_ret (Q8 s rfl (K4 d 0 rfl rfl isAgg71 sizeOf71 rfl) (q9 rfl) (d.ret rfl))
abbrev b0r (tolerance15:Int) (rv4381:(Int × Dice)):List Int:=([tolerance15,0,rv4381.1]:List Int)
abbrev E8_6 (from13:Int) (to14:Int) (rv7169:(Int × Dice)) (rv7179:(Int × Dice)):List Value:=[iv from13,iv to14,iv (w64 (1000000000000+(w64 (333333 * rv7169.1)))),iv (w64 (1000000000000+(w64 (333333 * rv7179.1))))]
abbrev E8_5 (from13:Int) (to14:Int) (rv3655:(Int × Dice)) (rv3665:(Int × Dice)):List Value:=[iv from13,iv to14,iv 1000000000000,iv 1000015000000,iv (w64 (1000000000000+(w64 (333333 * rv3655.1)))),iv (w64 (1000000000000+(w64 (333333 * rv3665.1)))),iv 0,iv 9007199254740992]
abbrev a3P (rv527:((List Record) × Dice)) (odd605:(List Record)) (raw5:(List Record)):List (List Record):=([rv527.1,odd605,raw5]:List (List Record))
abbrev b1k (p4814:Option Addr) (k4815:Nat) (rv4813:((List Segment) × Int)) (p10:Option Addr) (k11:Nat) (segments9:(List Segment)) (b4852:Nat) (rv4824:(Segment × Dice)) (rv4838:(Segment × Dice)):List Value:=[sl p4814 k4815 rv4813.1,sl p10 k11 segments9,sl (ad b4852) ([rv4824.1,rv4838.1]:List Segment).length ([rv4824.1,rv4838.1]:List Segment)]
abbrev a3O (rv4813:((List Segment) × Int)) (segments9:(List Segment)) (rv4824:(Segment × Dice)) (rv4838:(Segment × Dice)):List (List Segment):=([rv4813.1,segments9,([rv4824.1,rv4838.1]:List Segment)]:List (List Segment))
abbrev b0q (from13:Int) (to14:Int) (rv7169:(Int × Dice)) (rv7179:(Int × Dice)):List (Arr2 Int):=([(⟨from13,to14⟩:(Arr2 Int)),(⟨(w64 (1000000000000+(w64 (333333 * rv7169.1)))),(w64 (1000000000000+(w64 (333333 * rv7179.1))))⟩:(Arr2 Int))]:List (Arr2 Int))
abbrev b0p (from13:Int) (to14:Int) (rv3655:(Int × Dice)) (rv3665:(Int × Dice)):List (Arr2 Int):=([(⟨from13,to14⟩:(Arr2 Int)),(⟨1000000000000,1000015000000⟩:(Arr2 Int)),(⟨(w64 (1000000000000+(w64 (333333 * rv3655.1)))),(w64 (1000000000000+(w64 (333333 * rv3665.1))))⟩:(Arr2 Int)),(⟨0,9007199254740992⟩:(Arr2 Int))]:List (Arr2 Int))
theorem a6R {w0 S0 p2 k3 p6 k7 p10 k11 t1 raw5 segments9 from13 to14 tolerance15 r} (u:a2h t1 raw5 segments9 from13 to14 tolerance15=some r) (hS:Dm S0 w0) (h4:(Sq p2 k3 t1).p S0 w0) (h8:(Sq p6 k7 raw5).p S0 w0) (h12:(Sq p10 k11 segments9).p S0 w0):Ck Tryz.prog 8 #[sl p2 k3 t1,sl p6 k7 raw5,sl p10 k11 segments9,iv from13,iv to14,iv tolerance15] w0 S0 [] u6 r:=by
 refine en 353 func8 rfl hS rfl rfl rfl fun a s d=>?_
 have d:=((d.addE h4).addE h8).addE h12
 refine sz0 1 s rfl fun a s=>?_
 refine wp_seq (sn0 1 s rfl fun a s=>?_)
 obtain ⟨rv17,h16,u⟩:=bt u
 refine cV s d (b2B h16 d.bdom (d.bE 2 rfl)) (j3 call9 rfl) rfl fun a w s d=>?_
 refine rn0 2 s rfl fun a s=>?_
 refine rO 4 58 [] s d rfl rfl rfl rfl rfl fun a s=>?_
 refine mv s rfl rfl fun a s=>?_
 refine rO 4 63 [] s d rfl rfl rfl rfl rfl fun a s=>?_
 refine nl (cd s u rfl (fun u=>?_) fun u=>?_)
 ·refine sr ?_
  obtain ⟨rv35,h34,u⟩:=bt u
  refine cV s d (a4R h34 d.bdom) (j3 call10 rfl) rfl fun a w s d=>?_
  refine rz0 1 s rfl fun a s=>?_
  obtain rfl:=oi u
  exact wp_ret (j6 (rt s rfl (d.ret rfl)))
 refine sk (wp_seq (sz0 3 s rfl fun a s=>?_))
 refine wp_block (u7 (fun sv127 a w=>∃ Sv183,Sl 353 [(0,sl p2 k3 t1),(1,sl p6 k7 raw5),(2,sl p10 k11 segments9),(3,iv from13),(4,iv to14),(5,iv tolerance15),(69,sl p6 k7 raw5),(70,iv (raw5.length:Int)),(71,iv sv127)] a∧Wd ⟨w0,S0,[]⟩ Sv183 [] [Sq p2 k3 t1,Sq p6 k7 raw5,Sq p10 k11 segments9] w) 0 u ⟨S0,wj s d [] [2,1,0]⟩ ?_)
 repeat clear u
 rintro sv127 a w tv212 ⟨Sv183,s,d⟩ u hd211
 refine sz0 1 s rfl fun a s=>?_
 refine wp_seq (cd s u rfl (fun u=>?_) fun u=>?_)
 ·refine sk (wp_seq (wp_block (sr ?_)))
  obtain ⟨x245,h243,u⟩:=bt u
  obtain ⟨b251,o252,q249,c250,h253,h246,h247,h248,h244⟩:=d.elemV 1 rfl h243
  have hsv254:=s
  have hwv255:=d
  subst h253
  have s:=hsv254
  have d:=hwv255
  obtain ⟨_,_,_,_,_,_,_,_,_,_,_,_,rfl,rfl,rfl,rfl,rfl,rfl,rfl,rfl,rfl,rfl,rfl,rfl,⟨p256,n257,k258,rfl,h259⟩⟩:=h244
  obtain rfl:=h259.1
  have d:=(d.addE (e:=SlA p256 _ k258 x245.Samples) h259).addE h248
  refine sv s (o6 runUnderlying28 sizeOf56 rfl rfl h246.1 h246.2 h247) rfl fun a s=>?_
  refine sv s (G5 (j:=0) (d.ceAt 0 rfl) rfl isAgg56 sizeOf56 rfl rfl) rfl fun a s=>?_
  refine wa Z0 s d zeroValue56 fun b260 a w s d=>?_
  refine ws (C56 x245 p256 k258) s d 0 rfl rfl rfl sizeOf56 fun a w s d=>?_
  refine nl (sz 4 [0] s d rfl rfl fun a s=>?_)
  refine cd s u rfl (fun u=>?_) fun u=>?_
  ·refine sr ?_
   obtain ⟨rv271,h270,u⟩:=bt u
   refine cV s d (a4R h270 d.bdom) (j3 call10 rfl) rfl fun a w s d=>?_
   refine rz0 1 s rfl fun a s=>?_
   obtain rfl:=oi u
   have h277:=hd211 _ rfl
   subst h277
   exact wp_ret (A8 (j6 (j6 (A8 (j6 (rt s rfl (d.ret rfl)))))))
  refine wp_skip (l8 (tn (wp_region_lit (rz0 2 s rfl fun a s=>?_))))
  exact ⟨_,io u,Sv183,wj s d [] [2,3,4]⟩
 obtain ⟨rv8048,u,h8049⟩:=a0x u
 have h8049:=(hd211 _ h8049.symm).symm
 subst h8049
 refine wp_exit (j5 (j5 (o9 (tn (wp_seq (sz0 3 s rfl fun a s=>?_))))))
 refine wp_block (u7 (fun sv364 a w=>∃ Sv420,Sl 353 [(0,sl p2 k3 t1),(1,sl p6 k7 raw5),(2,sl p10 k11 segments9),(3,iv from13),(4,iv to14),(5,iv tolerance15),(81,sl p10 k11 segments9),(82,iv (segments9.length:Int)),(83,iv sv364)] a∧Wd ⟨w0,S0,[]⟩ Sv420 [] [Sq p2 k3 t1,Sq p6 k7 raw5,Sq p10 k11 segments9] w) 0 u ⟨Sv183,wj s d [] [0,1,2]⟩ ?_)
 repeat clear u
 rintro sv364 a w tv449 ⟨Sv420,s,d⟩ u hd448
 refine sz0 1 s rfl fun a s=>?_
 refine wp_seq (cd s u rfl (fun u=>?_) fun u=>?_)
 ·refine sk (wp_seq (wp_block (sr ?_)))
  obtain ⟨x482,h480,u⟩:=bt u
  obtain ⟨b488,o489,q486,c487,h490,h483,h484,h485,h481⟩:=d.elemV 2 rfl h480
  have hsv491:=s
  have hwv492:=d
  subst h490
  have s:=hsv491
  have d:=hwv492
  obtain ⟨_,_,_,_,_,_,rfl,rfl,rfl,rfl,rfl,rfl,⟨p493,n494,k495,rfl,h496⟩⟩:=h481
  obtain rfl:=h496.1
  have d:=(d.addE (e:=SlA p493 _ k495 x482.Samples) h496).addE h485
  refine sv s (o6 runUnderlying60 sizeOf64 rfl rfl h483.1 h483.2 h484) rfl fun a s=>?_
  refine sv s (G5 (j:=0) (d.ceAt 0 rfl) rfl isAgg64 sizeOf64 rfl rfl) rfl fun a s=>?_
  refine wa Z19 s d zeroValue64 fun b497 a w s d=>?_
  refine ws (C64 x482 p493 k495) s d 0 rfl rfl rfl sizeOf64 fun a w s d=>?_
  refine nl (sz 4 [0] s d rfl rfl fun a s=>?_)
  refine cd s u rfl (fun u=>?_) fun u=>?_
  ·refine sr ?_
   obtain ⟨rv508,h507,u⟩:=bt u
   refine cV s d (a4R h507 d.bdom) (j3 call10 rfl) rfl fun a w s d=>?_
   refine rz0 1 s rfl fun a s=>?_
   obtain rfl:=oi u
   have h514:=hd448 _ rfl
   subst h514
   exact wp_ret (A8 (j6 (j6 (A8 (j6 (rt s rfl (d.ret rfl)))))))
  refine wp_skip (l8 (tn (wp_region_lit (rz0 2 s rfl fun a s=>?_))))
  exact ⟨_,io u,Sv420,wj s d [] [2,3,4]⟩
 obtain ⟨rv8046,u,h8047⟩:=a0x u
 have h8047:=(hd448 _ h8047.symm).symm
 subst h8047
 refine wp_exit (j5 (j5 (o9 (tn (sn0 1 s rfl fun a s=>?_)))))
 obtain ⟨rv516,h515,u⟩:=bt u
 refine cR s (b3x h515 d.dom (d.envAt 0 rfl)) (j3 call11 rfl) rfl ?_
 rintro v524 Sv521 w a h522 ⟨b517,p518,k519,rfl,h525,h520⟩ s
 have d:=(d.callN h522 h525).addE (e:=Sq p518 k519 rv516.L) h520
 refine rz0 1 s rfl fun a s=>?_
 refine sn0 1 s rfl fun a s=>?_
 obtain ⟨rv527,h526,u⟩:=bt u
 refine cR s (a8m h526 d.dom (d.ins [0] (by decide) rfl) (d.envAt 0 rfl)) (j3 call12 rfl) rfl ?_
 rintro v538 Sv535 w a h536 ⟨p528,k529,c531,p532,k533,rfl,h539,h530,h534⟩ s
 have d:=((d.callO [0] [] (by decide) rfl h536 h539).addE (e:=l7 c531 rv527.1) h530).addE (e:=Sq p532 k533 rv527.2.L) h534
 refine rz0 1 s rfl fun a s=>?_
 refine sn0 1 s rfl fun a s=>?_
 obtain ⟨l541,h540,u⟩:=bt u
 have d:=d.nilRow Record 56
 refine F4 (α:=Record) s d a9F 0 rfl rfl rfl 0 rfl 1 rfl 2 rfl h540 rfl trivial ?_
 intro p542 k543 c544 a w s d
 refine rz0 1 s rfl fun a s=>?_
 refine wp_seq (sn0 2 s rfl fun a s=>?_)
 obtain ⟨n546,h545,u⟩:=bt u
 refine sv s (o8 rfl h545) rfl fun a s=>?_
 refine nl (sz0 2 s rfl fun a s=>?_)
 refine q8 (fun a w=>∃ (x603:(List Int)) (x604:Int) (odd605:(List Record)) (p597 k598 c599 p600 k601 Sv602:_),Q0 raw5 segments9 from13 to14 tolerance15 rv527 x603 x604 odd605=some r∧Sl 353 [(1,sl p6 k7 raw5),(2,sl p10 k11 segments9),(3,iv from13),(4,iv to14),(5,iv tolerance15),(17,pt b517),(18,sl p528 k529 rv527.1),(19,sl p600 k601 odd605)] a∧Wd ⟨w0,S0,[]⟩ Sv602 [.box b517 [sl p597 k598 x603,iv x604] 87,.row p528 rv527.1.length k529 c531 56 12,.row p600 odd605.length k601 c599 56 12] [Sq p6 k7 raw5,Sq p10 k11 segments9,Sq p597 k598 x603,l7 c531 rv527.1,l7 c599 odd605] w) ?_ ?_
 ·refine cd s u rfl (fun u=>?_) fun u=>?_
  ·refine wp_region_lit (rn0 7 s rfl fun a s=>?_)
   obtain ⟨x7999,h7997,u⟩:=bt u
   obtain ⟨b8006,q8003,c8004,h8007,h8000,h8001,h8005,h7998⟩:=d.elemRV (α:=Record) 0 rfl 0 rfl h7997
   have hsv8008:=s
   have hwv8009:=d
   subst h8007
   have s:=hsv8008
   have d:=hwv8009
   obtain ⟨_,_,_,_,_,_,_,_,_,_,_,_,rfl,rfl,rfl,rfl,rfl,rfl,rfl,rfl,rfl,rfl,rfl,rfl,⟨p8010,n8011,k8012,rfl,h8013⟩⟩:=h7998
   obtain rfl:=h8013.1
   have d:=d.addE (e:=SlA p8010 _ k8012 x7999.Samples) h8013
   refine sv s (o6 runUnderlying28 sizeOf56 rfl rfl h8000.1 h8000.2 h8001) rfl fun a s=>?_
   refine sv s (I1 (j:=0) (d.ownAt 0 rfl) rfl isAgg56 sizeOf56 h8005 rfl rfl) rfl fun a s=>?_
   obtain ⟨rv8015,h8014,u⟩:=bt u
   refine cR s (a7H h8014 d.dom (d.ins [2] (by decide) rfl) (d.envAt 3 rfl) (d.envAt 0 rfl)) (j3 call35 rfl) rfl ?_
   rintro v8026 Sv8023 w a h8024 ⟨p8016,k8017,c8019,p8020,k8021,rfl,h8027,h8018,h8022⟩ s
   have d:=((d.callO [2] [0,1] (by decide) rfl h8024 h8027).addE (e:=l7 c8019 rv8015.1.Samples) h8018).addE (e:=Sq p8020 k8021 rv8015.2.L) h8022
   obtain ⟨x8030,h8028,u⟩:=bt u
   obtain ⟨q8034,c8035,h8031,h8032,h8036,h8029⟩:=d.elemRK (α:=Record) 2 rfl 3 rfl h8028
   obtain ⟨_,_,_,_,_,_,_,_,_,_,_,_,rfl,rfl,rfl,rfl,rfl,rfl,rfl,rfl,rfl,rfl,rfl,rfl,⟨p8037,n8038,k8039,rfl,h8040⟩⟩:=h8029
   obtain rfl:=h8040.1
   have d:=d.addE (e:=SlA p8037 _ k8039 x8030.Samples) h8040
   refine sv s (o6 runUnderlying28 sizeOf56 rfl rfl h8031.1 h8031.2 h8032) rfl fun a s=>?_
   obtain ⟨l8042,h8041,u⟩:=bt u
   obtain ⟨Sv8045,d⟩:=D6 (α:=Int) d 0 rfl 2 rfl
   refine a2M (α:=Record) s d 1 rfl 5 rfl h8032 rfl rfl sizeOf56 rfl h8041 ⟨_,_,_,_,_,_,_,_,_,_,_,_,rfl,rfl,rfl,rfl,rfl,rfl,rfl,rfl,rfl,rfl,rfl,rfl,⟨_,_,_,rfl,d.envAt 0 rfl⟩⟩ trivial ?_
   intro c8043 a w s d
   have h8044:=Y0 h8041
   try have s:=s.fl 19 rfl h8044
   try have s:=s.fl 103 rfl h8044
   try have s:=s.fl 107 rfl h8044
   exact nl ⟨rv8015.2.L,rv8015.2.At,l8042,p8020,k8021,c8043,(ad b8006),k543,Sv8045,u,wj s d [0,2,1] [12,13,3,9,0]⟩
  exact sk ⟨rv527.2.L,rv527.2.At,l541,p532,k533,c544,p542,k543,Sv535,u,wj s d [2,1,0] [6,7,2,3,0]⟩
 rintro a w ⟨x603,x604,odd605,p597,k598,c599,p600,k601,Sv602,u,s,d⟩
 refine tn (wp_seq (sn0 3 s rfl fun a s=>?_))
 obtain ⟨Sv608,d⟩:=D6 (α:=Record) d 1 rfl 3 rfl
 obtain ⟨Sv609,d⟩:=D6 (α:=Record) d 1 rfl 5 rfl
 refine o7 (α:=(List Record)) (vs:=[sl p528 k529 rv527.1,sl p600 k601 odd605,sl p6 k7 raw5]) (cs:=[sl p528 k529 rv527.1,sl p600 k601 odd605,sl p6 k7 raw5]) (xs:=(a3P rv527 odd605 raw5)) s d El79 rfl rfl rfl rfl rfl rfl ⟨⟨_,rfl,⟨_,_,_,rfl,d.envAt 1 rfl⟩⟩,⟨⟨_,rfl,⟨_,_,_,rfl,d.envAt 0 rfl⟩⟩,⟨⟨_,rfl,⟨_,_,_,rfl,d.envAt 2 rfl⟩⟩,rfl⟩⟩⟩ rfl trivial rfl fun b607 a w s d=>?_
 refine rz0 2 s rfl fun a s=>?_
 refine wp_block (u7 (fun sv1909 a w=>∃ p2773 k2774 Sv2775,Sl 353 [(2,sl p10 k11 segments9),(3,iv from13),(4,iv to14),(5,iv tolerance15),(17,pt b517),(18,sl p528 k529 rv527.1),(117,sl (ad b607) (a3P rv527 odd605 raw5).length (a3P rv527 odd605 raw5)),(118,iv ((a3P rv527 odd605 raw5).length:Int)),(119,iv sv1909.2.2)] a∧Wd ⟨w0,S0,[]⟩ Sv2775 [.box b517 [sl p2773 k2774 sv1909.1,iv sv1909.2.1] 87,.row (ad b607) (a3P rv527 odd605 raw5).length (a3P rv527 odd605 raw5).length [sl p528 k529 rv527.1,sl p600 k601 odd605,sl p6 k7 raw5] 28 1] [Sq p10 k11 segments9,Sq p528 k529 rv527.1,Sq p2773 k2774 sv1909.1,l7 [sl p528 k529 rv527.1,sl p600 k601 odd605,sl p6 k7 raw5] (a3P rv527 odd605 raw5)] w) (x603,x604,0) u ⟨p597,k598,Sv609,wj s d [1,0] [4,2,5,0]⟩ ?_)
 repeat clear u
 rintro sv1909 a w tv3207 ⟨p2773,k2774,Sv2775,s,d⟩ u hd3206
 refine sz0 1 s rfl fun a s=>?_
 refine wp_seq (cd s u rfl (fun u=>?_) fun u=>?_)
 ·refine sk (wp_seq (wp_block (sr ?_)))
  obtain ⟨x3643,h3641,u⟩:=bt u
  obtain ⟨q3647,c3648,h3644,h3645,h3649,h3642⟩:=d.elemRK (α:=(List Record)) 1 rfl 3 rfl h3641
  obtain ⟨_,rfl,⟨p3650,n3651,k3652,rfl,h3653⟩⟩:=h3642
  obtain rfl:=h3653.1
  have d:=d.addE (e:=SlA p3650 _ k3652 x3643) h3653
  refine sv s (o6 runUnderlying79 sizeOf28 rfl rfl h3644.1 h3644.2 h3645) rfl fun a s=>?_
  refine sv s (A7 (j:=0) (d.ownAt 1 rfl) rfl isAgg28 h3649 rfl) rfl fun a s=>?_
  refine rz0 1 s rfl fun a s=>?_
  refine wp_seq (sn0 2 s rfl fun a s=>?_)
  refine sv s (D7 (vs:=[(0,iv from13),(1,iv to14)]) b1H rfl rfl) rfl fun a s=>?_
  refine sv s (D7 (vs:=[(0,iv 1000000000000),(1,iv 1000015000000)]) b1H rfl rfl) rfl fun a s=>?_
  refine mv s rfl rfl fun a s=>?_
  obtain ⟨rv3655,h3654,u⟩:=bt u
  refine cR s (y5 h3654 d.dom (d.ins [0] (by decide) rfl) (d.envAt 3 rfl)) (j3 call30 rfl) rfl ?_
  rintro v3662 Sv3659 w a h3660 ⟨p3656,k3657,rfl,h3663,h3658⟩ s
  have d:=(d.callO [0] [1] (by decide) rfl h3660 h3663).addE (e:=Sq p3656 k3657 rv3655.2.L) h3658
  refine rn0 3 s rfl fun a s=>?_
  obtain ⟨rv3665,h3664,u⟩:=bt u
  refine cR s (y5 h3664 d.dom (d.ins [0] (by decide) rfl) (d.envAt 0 rfl)) (j3 call30 rfl) rfl ?_
  rintro v3672 Sv3669 w a h3670 ⟨p3666,k3667,rfl,h3673,h3668⟩ s
  have d:=(d.callO [0] [1] (by decide) rfl h3670 h3673).addE (e:=Sq p3666 k3667 rv3665.2.L) h3668
  refine rn0 2 s rfl fun a s=>?_
  refine sv s (D7 (vs:=[(0,iv (w64 (1000000000000+(w64 (333333 * rv3655.1))))),(1,iv (w64 (1000000000000+(w64 (333333 * rv3665.1)))))]) b1H rfl rfl) rfl fun a s=>?_
  refine sv s (D7 (vs:=[(0,iv 0),(1,iv 9007199254740992)]) b1H rfl rfl) rfl fun a s=>?_
  refine o7 (α:=(Arr2 Int)) (vs:=[.agg #[iv from13,iv to14],.agg #[iv 1000000000000,iv 1000015000000],.agg #[iv (w64 (1000000000000+(w64 (333333 * rv3655.1)))),iv (w64 (1000000000000+(w64 (333333 * rv3665.1))))],.agg #[iv 0,iv 9007199254740992]]) (cs:=(E8_5 from13 to14 rv3655 rv3665)) (xs:=(b0p from13 to14 rv3655 rv3665)) s d El80 rfl rfl rfl rfl rfl rfl ⟨⟨_,_,rfl,rfl,rfl⟩,⟨⟨_,_,rfl,rfl,rfl⟩,⟨⟨_,_,rfl,rfl,rfl⟩,⟨⟨_,_,rfl,rfl,rfl⟩,rfl⟩⟩⟩⟩ rfl trivial rfl fun b3675 a w s d=>?_
  refine rz0 2 s rfl fun a s=>?_
  refine wp_block (u7 (fun sv3900 a w=>∃ Sv4048,Sl 353 [(2,sl p10 k11 segments9),(3,iv from13),(4,iv to14),(5,iv tolerance15),(17,pt b517),(18,sl p528 k529 rv527.1),(22,sl p3650 k3652 x3643),(117,sl (ad b607) (a3P rv527 odd605 raw5).length (a3P rv527 odd605 raw5)),(118,iv ((a3P rv527 odd605 raw5).length:Int)),(119,iv sv1909.2.2),(137,sl (ad b3675) (b0p from13 to14 rv3655 rv3665).length (b0p from13 to14 rv3655 rv3665)),(138,iv ((b0p from13 to14 rv3655 rv3665).length:Int)),(139,iv sv3900)] a∧Wd ⟨w0,S0,[]⟩ Sv4048 [.box b517 (C87 rv3665.2 p3666 k3667) 87,.row (ad b607) (a3P rv527 odd605 raw5).length (a3P rv527 odd605 raw5).length [sl p528 k529 rv527.1,sl p600 k601 odd605,sl p6 k7 raw5] 28 1,.row (ad b3675) (b0p from13 to14 rv3655 rv3665).length (b0p from13 to14 rv3655 rv3665).length (E8_5 from13 to14 rv3655 rv3665) 50 2] [Sq p10 k11 segments9,Sq p528 k529 rv527.1,Sq p3650 k3652 x3643,Sq p3666 k3667 rv3665.2.L,l7 [sl p528 k529 rv527.1,sl p600 k601 odd605,sl p6 k7 raw5] (a3P rv527 odd605 raw5),l7 (E8_5 from13 to14 rv3655 rv3665) (b0p from13 to14 rv3655 rv3665)] w) 0 u ⟨Sv3669,wj s d [1,2,0] [4,5,3,1,7,0]⟩ ?_)
  repeat clear u
  rintro sv3900 a w tv4123 ⟨Sv4048,s,d⟩ u hd4122
  refine sz0 1 s rfl fun a s=>?_
  refine wp_seq (cd s u rfl (fun u=>?_) fun u=>?_)
  ·refine sk (wp_seq (wp_block (sr ?_)))
   obtain ⟨x4202,h4200,u⟩:=bt u
   obtain ⟨q4206,c4207,h4203,h4204,h4208,h4201⟩:=d.elemRK (α:=(Arr2 Int)) 2 rfl 5 rfl h4200
   obtain ⟨_,_,rfl,rfl,rfl⟩:=h4201
   refine sv s (o6 runUnderlying80 sizeOf50 rfl rfl h4203.1 h4203.2 h4204) rfl fun a s=>?_
   refine sv s (I1 (j:=0) (d.ownAt 2 rfl) rfl isAgg50 sizeOf50 h4208 rfl rfl) rfl fun a s=>?_
   refine wa [iv 0,iv 0] s d zeroValue50 fun b4209 a w s d=>?_
   refine ws [iv x4202.e0,iv x4202.e1] s d 0 rfl rfl rfl sizeOf50 fun a w s d=>?_
   refine nl (sn0 1 s rfl fun a s=>?_)
   refine sv s (M9 (q:=0) runUnderlying50 sizeOf3 rfl rfl (by decide) (by decide) rfl) rfl fun a s=>?_
   refine sv s (I9 (d.ownAt 0 rfl) rfl isAgg3 rfl) rfl fun a s=>?_
   refine sv s (M9 (q:=1) runUnderlying50 sizeOf3 rfl rfl (by decide) (by decide) rfl) rfl fun a s=>?_
   refine sv s (I9 (d.ownAt 0 rfl) rfl isAgg3 rfl) rfl fun a s=>?_
   obtain ⟨rv4211,h4210,u⟩:=bt u
   refine cR s (a5S h4210 d.dom (d.envAt 2 rfl)) (j3 call13 rfl) rfl ?_
   rintro v4219 Sv4216 w a h4217 ⟨p4212,k4213,c4215,rfl,h4220,h4214⟩ s
   have d:=(d.callN h4217 h4220).addE (e:=l7 c4215 rv4211.1) h4214
   refine rz0 5 s rfl fun a s=>?_
   refine sn0 1 s rfl fun a s=>?_
   refine sv s (M9 (q:=0) runUnderlying50 sizeOf3 rfl rfl (by decide) (by decide) rfl) rfl fun a s=>?_
   refine sv s (I9 (d.ownAt 1 rfl) rfl isAgg3 rfl) rfl fun a s=>?_
   refine sv s (M9 (q:=1) runUnderlying50 sizeOf3 rfl rfl (by decide) (by decide) rfl) rfl fun a s=>?_
   refine sv s (I9 (d.ownAt 1 rfl) rfl isAgg3 rfl) rfl fun a s=>?_
   obtain ⟨rv4222,h4221,u⟩:=bt u
   refine cR s (b2N h4221 d.dom (d.envAt 3 rfl)) (j3 call36 rfl) rfl ?_
   rintro v4230 Sv4227 w a h4228 ⟨p4223,k4224,c4226,rfl,h4231,h4225⟩ s
   have d:=(d.callN h4228 h4231).addE (e:=l7 c4226 rv4222.1) h4225
   refine rz0 5 s rfl fun a s=>?_
   refine sn0 1 s rfl fun a s=>?_
   refine sv s (M9 (q:=0) runUnderlying50 sizeOf3 rfl rfl (by decide) (by decide) rfl) rfl fun a s=>?_
   refine sv s (I9 (d.ownAt 2 rfl) rfl isAgg3 rfl) rfl fun a s=>?_
   refine sv s (M9 (q:=1) runUnderlying50 sizeOf3 rfl rfl (by decide) (by decide) rfl) rfl fun a s=>?_
   refine sv s (I9 (d.ownAt 2 rfl) rfl isAgg3 rfl) rfl fun a s=>?_
   obtain ⟨rv4233,h4232,u⟩:=bt u
   refine cR s (a3Z h4232 d.dom (d.envAt 4 rfl)) (j3 call14 rfl) rfl ?_
   rintro v4241 Sv4238 w a h4239 ⟨p4234,k4235,c4237,rfl,h4242,h4236⟩ s
   have d:=(d.callN h4239 h4242).addE (e:=l7 c4237 rv4233.1) h4236
   refine rz0 5 s rfl fun a s=>?_
   refine sn0 1 s rfl fun a s=>?_
   refine sv s (M9 (q:=0) runUnderlying50 sizeOf3 rfl rfl (by decide) (by decide) rfl) rfl fun a s=>?_
   refine sv s (I9 (d.ownAt 3 rfl) rfl isAgg3 rfl) rfl fun a s=>?_
   refine sv s (M9 (q:=1) runUnderlying50 sizeOf3 rfl rfl (by decide) (by decide) rfl) rfl fun a s=>?_
   refine sv s (I9 (d.ownAt 3 rfl) rfl isAgg3 rfl) rfl fun a s=>?_
   obtain ⟨rv4244,h4243,u⟩:=bt u
   refine cR s (b0d h4243 d.dom (d.envAt 5 rfl)) (j3 call37 rfl) rfl ?_
   rintro v4252 Sv4249 w a h4250 ⟨p4245,k4246,c4248,rfl,h4253,h4247⟩ s
   have d:=(d.callN h4250 h4253).addE (e:=l7 c4248 rv4244.1) h4247
   refine rz0 5 s rfl fun a s=>?_
   refine wp_seq ?_
   obtain ⟨c4256,hc4256,u⟩:=bt u
   obtain ⟨c4259,hc4259,u⟩:=bt u
   obtain ⟨c4264,hc4264,u⟩:=bt u
   obtain ⟨c4269,hc4269,u⟩:=bt u
   refine A9 (fun a w=>∃ Sv4270,Sl 353 [(2,sl p10 k11 segments9),(3,iv from13),(4,iv to14),(5,iv tolerance15),(17,pt b517),(18,sl p528 k529 rv527.1),(22,sl p3650 k3652 x3643),(117,sl (ad b607) (a3P rv527 odd605 raw5).length (a3P rv527 odd605 raw5)),(118,iv ((a3P rv527 odd605 raw5).length:Int)),(119,iv sv1909.2.2),(137,sl (ad b3675) (b0p from13 to14 rv3655 rv3665).length (b0p from13 to14 rv3655 rv3665)),(138,iv ((b0p from13 to14 rv3655 rv3665).length:Int)),(139,iv sv3900),(220,.bool c4269)] a∧Wd ⟨w0,S0,[]⟩ Sv4270 [.box b517 (C87 rv3665.2 p3666 k3667) 87,.row (ad b607) (a3P rv527 odd605 raw5).length (a3P rv527 odd605 raw5).length [sl p528 k529 rv527.1,sl p600 k601 odd605,sl p6 k7 raw5] 28 1,.row (ad b3675) (b0p from13 to14 rv3655 rv3665).length (b0p from13 to14 rv3655 rv3665).length (E8_5 from13 to14 rv3655 rv3665) 50 2] [Sq p10 k11 segments9,Sq p528 k529 rv527.1,Sq p3650 k3652 x3643,Sq p3666 k3667 rv3665.2.L,l7 [sl p528 k529 rv527.1,sl p600 k601 odd605,sl p6 k7 raw5] (a3P rv527 odd605 raw5),l7 (E8_5 from13 to14 rv3655 rv3665) (b0p from13 to14 rv3655 rv3665)] w) ?_ ?_
   ·rcases Bool.eq_false_or_eq_true (rv4211.2 != rv4222.2) with h4271 | h4271
    ·have h4272:=E9 hc4256 h4271
     have h4273:c4256=true:=(Option.some.inj h4272).symm
     have h4275:(c4256 || (rv4233.2 != rv4244.2))=true:=by rw [h4273];rfl
     have h4276:=E9 hc4259 h4275
     have h4277:c4259=true:=(Option.some.inj h4276).symm
     have h4278:=E9 hc4264 h4277
     have h4279:c4264=true:=(Option.some.inj h4278).symm
     have h4280:=E9 hc4269 h4279
     refine h_c [0,1,2,3,4,5,6,7] [] d rfl rfl (by kernel_rfl) rfl fun hC d=>?_
     refine gn 4 [0,1,2,3] [] s hC rfl rfl rfl fun a s=>?_
     have s:=s.bT 182 rfl h4271
     refine gn 4 [4,5,6,7] [] s hC rfl rfl rfl fun a s=>?_
     refine gT s 8 rfl rfl hC rfl rfl h4272 fun a s=>?_
     refine gm s 9 rfl rfl rfl hC fun a s=>?_
     have s:=s.bT 188 rfl h4273
     refine gn 3 [10,11,12] [] s hC rfl rfl rfl fun a s=>?_
     refine gv s 13 rfl rfl hC (fun w hC=>b4V (v:=.bool (c4256 || (rv4233.2 != rv4244.2))) rfl rfl (or_t h4273)) fun a s=>?_
     refine gm s 14 rfl rfl rfl hC fun a s=>?_
     have s:=s.bT 193 rfl h4275
     refine gn 4 [15,16,17,18] [] s hC rfl rfl rfl fun a s=>?_
     refine gT s 19 rfl rfl hC rfl rfl h4276 fun a s=>?_
     refine gm s 20 rfl rfl rfl hC fun a s=>?_
     have s:=s.bT 199 rfl h4277
     refine gn 9 [21,22,23,24,25,26,27,28,29] [] s hC rfl rfl rfl fun a s=>?_
     refine gT s 30 rfl rfl hC rfl rfl h4278 fun a s=>?_
     refine gm s 31 rfl rfl rfl hC fun a s=>?_
     have s:=s.bT 210 rfl h4279
     refine gn 9 [32,33,34,35,36,37,38,39,40] [] s hC rfl rfl rfl fun a s=>?_
     refine gT s 41 rfl rfl hC rfl rfl h4280 fun a s=>?_
     refine y7 (by kernel_rfl) ?_
     exact ⟨Sv4249,wj s d [5,6,7] [4,5,6,7,8,9]⟩
    have h4281:=F7 hc4256 h4271
    obtain ⟨rv4283,h4282,h4281⟩:=H5 h4281
    rcases Bool.eq_false_or_eq_true (c4256 || (rv4233.2 != rv4244.2)) with h4284 | h4284
    ·have h4285:=E9 hc4259 h4284
     have h4286:c4259=true:=(Option.some.inj h4285).symm
     have h4287:=E9 hc4264 h4286
     have h4288:c4264=true:=(Option.some.inj h4287).symm
     have h4289:=E9 hc4269 h4288
     refine h_c [0,1,2,3,4,5,6,7] [] d rfl rfl (by kernel_rfl) rfl fun hC d=>?_
     refine gn 4 [0,1,2,3] [] s hC rfl rfl rfl fun a s=>?_
     have s:=s.bF 182 rfl h4271
     refine gn 2 [4,5] [] s hC rfl rfl rfl fun a s=>?_
     refine ho 6 rfl ?_
     refine x9 s (a3v h4282 d.bdom (d.bRow 3 rfl 3 rfl) (d.bRow 2 rfl 2 rfl)) (j3 call16 rfl) ⟨_,rfl,rfl⟩ rfl rfl ?_
     rintro v4293 Sv4290 w a h4291 rfl s
     have d:=d.callB h4291
     refine h_n [0,1,2,3,4,5,6,7] [] d rfl rfl fun hC=>?_
     refine gt s 7 rfl ⟨_,rfl,rfl⟩ rfl hC (fun w hC=>a9k rfl) fun a s=>?_
     refine gF s 8 rfl rfl hC rfl rfl h4281 fun a s=>?_
     refine gm s 9 rfl rfl rfl hC fun a s=>?_
     refine gO 4 188 [10,11,12,13] [] s hC rfl rfl rfl rfl rfl rfl fun a s=>?_
     refine gm s 14 rfl rfl rfl hC fun a s=>?_
     have s:=s.bT 193 rfl h4284
     refine gn 4 [15,16,17,18] [] s hC rfl rfl rfl fun a s=>?_
     refine gT s 19 rfl rfl hC rfl rfl h4285 fun a s=>?_
     refine gm s 20 rfl rfl rfl hC fun a s=>?_
     have s:=s.bT 199 rfl h4286
     refine gn 9 [21,22,23,24,25,26,27,28,29] [] s hC rfl rfl rfl fun a s=>?_
     refine gT s 30 rfl rfl hC rfl rfl h4287 fun a s=>?_
     refine gm s 31 rfl rfl rfl hC fun a s=>?_
     have s:=s.bT 210 rfl h4288
     refine gn 9 [32,33,34,35,36,37,38,39,40] [] s hC rfl rfl rfl fun a s=>?_
     refine gT s 41 rfl rfl hC rfl rfl h4289 fun a s=>?_
     refine y7 (by kernel_rfl) ?_
     exact ⟨Sv4249,wj s d [5,6,7] [4,5,6,7,8,9]⟩
    have h4295:=F7 hc4259 h4284
    obtain ⟨rv4297,h4296,h4295⟩:=H5 h4295
    rcases Bool.eq_false_or_eq_true c4259 with h4298 | h4298
    ·have h4299:=E9 hc4264 h4298
     have h4300:c4264=true:=(Option.some.inj h4299).symm
     have h4301:=E9 hc4269 h4300
     refine h_c [0,1,2,3,4,5,6,7] [] d rfl rfl (by kernel_rfl) rfl fun hC d=>?_
     refine gn 4 [0,1,2,3] [] s hC rfl rfl rfl fun a s=>?_
     have s:=s.bF 182 rfl h4271
     refine gn 2 [4,5] [] s hC rfl rfl rfl fun a s=>?_
     refine ho 6 rfl ?_
     refine x9 s (a3v h4282 d.bdom (d.bRow 3 rfl 3 rfl) (d.bRow 2 rfl 2 rfl)) (j3 call16 rfl) ⟨_,rfl,rfl⟩ rfl rfl ?_
     rintro v4305 Sv4302 w a h4303 rfl s
     have d:=d.callB h4303
     refine h_n [0,1,2,3,4,5,6,7] [] d rfl rfl fun hC=>?_
     refine gt s 7 rfl ⟨_,rfl,rfl⟩ rfl hC (fun w hC=>a9k rfl) fun a s=>?_
     refine gF s 8 rfl rfl hC rfl rfl h4281 fun a s=>?_
     refine gm s 9 rfl rfl rfl hC fun a s=>?_
     refine gO 4 188 [10,11,12,13] [] s hC rfl rfl rfl rfl rfl rfl fun a s=>?_
     refine gm s 14 rfl rfl rfl hC fun a s=>?_
     have s:=s.bF 193 rfl h4284
     refine gn 2 [15,16] [] s hC rfl rfl rfl fun a s=>?_
     refine ho 17 rfl ?_
     refine x9 s (a2k h4296 d.bdom (d.bRow 1 rfl 1 rfl) (d.bRow 0 rfl 0 rfl)) (j3 call38 rfl) ⟨_,rfl,rfl⟩ rfl rfl ?_
     rintro v4310 Sv4307 w a h4308 rfl s
     have d:=d.callB h4308
     refine h_n [0,1,2,3,4,5,6,7] [] d rfl rfl fun hC=>?_
     refine gt s 18 rfl ⟨_,rfl,rfl⟩ rfl hC (fun w hC=>a9k rfl) fun a s=>?_
     refine gF s 19 rfl rfl hC rfl rfl h4295 fun a s=>?_
     refine gm s 20 rfl rfl rfl hC fun a s=>?_
     have s:=s.bT 199 rfl h4298
     refine gn 9 [21,22,23,24,25,26,27,28,29] [] s hC rfl rfl rfl fun a s=>?_
     refine gT s 30 rfl rfl hC rfl rfl h4299 fun a s=>?_
     refine gm s 31 rfl rfl rfl hC fun a s=>?_
     have s:=s.bT 210 rfl h4300
     refine gn 9 [32,33,34,35,36,37,38,39,40] [] s hC rfl rfl rfl fun a s=>?_
     refine gT s 41 rfl rfl hC rfl rfl h4301 fun a s=>?_
     refine y7 (by kernel_rfl) ?_
     exact ⟨Sv4249,wj s d [5,6,7] [4,5,6,7,8,9]⟩
    have h4312:=F7 hc4264 h4298
    obtain ⟨rv4314,h4313,h4312⟩:=H5 h4312
    obtain ⟨rv4316,h4315,h4312⟩:=H5 h4312
    rcases Bool.eq_false_or_eq_true c4264 with h4317 | h4317
    ·have h4318:=E9 hc4269 h4317
     refine h_c [0,1,2,3,4,5,6,7] [] d rfl rfl (by kernel_rfl) rfl fun hC d=>?_
     refine gn 4 [0,1,2,3] [] s hC rfl rfl rfl fun a s=>?_
     have s:=s.bF 182 rfl h4271
     refine gn 2 [4,5] [] s hC rfl rfl rfl fun a s=>?_
     refine ho 6 rfl ?_
     refine x9 s (a3v h4282 d.bdom (d.bRow 3 rfl 3 rfl) (d.bRow 2 rfl 2 rfl)) (j3 call16 rfl) ⟨_,rfl,rfl⟩ rfl rfl ?_
     rintro v4322 Sv4319 w a h4320 rfl s
     have d:=d.callB h4320
     refine h_n [0,1,2,3,4,5,6,7] [] d rfl rfl fun hC=>?_
     refine gt s 7 rfl ⟨_,rfl,rfl⟩ rfl hC (fun w hC=>a9k rfl) fun a s=>?_
     refine gF s 8 rfl rfl hC rfl rfl h4281 fun a s=>?_
     refine gm s 9 rfl rfl rfl hC fun a s=>?_
     refine gO 4 188 [10,11,12,13] [] s hC rfl rfl rfl rfl rfl rfl fun a s=>?_
     refine gm s 14 rfl rfl rfl hC fun a s=>?_
     have s:=s.bF 193 rfl h4284
     refine gn 2 [15,16] [] s hC rfl rfl rfl fun a s=>?_
     refine ho 17 rfl ?_
     refine x9 s (a2k h4296 d.bdom (d.bRow 1 rfl 1 rfl) (d.bRow 0 rfl 0 rfl)) (j3 call38 rfl) ⟨_,rfl,rfl⟩ rfl rfl ?_
     rintro v4327 Sv4324 w a h4325 rfl s
     have d:=d.callB h4325
     refine h_n [0,1,2,3,4,5,6,7] [] d rfl rfl fun hC=>?_
     refine gt s 18 rfl ⟨_,rfl,rfl⟩ rfl hC (fun w hC=>a9k rfl) fun a s=>?_
     refine gF s 19 rfl rfl hC rfl rfl h4295 fun a s=>?_
     refine gm s 20 rfl rfl rfl hC fun a s=>?_
     have s:=s.bF 199 rfl h4298
     refine gt s 21 rfl ⟨_,rfl,rfl⟩ rfl hC (fun w hC=>O5 rfl) fun a s=>?_
     refine gt s 22 rfl ⟨_,rfl,rfl⟩ rfl hC (fun w hC=>M9 (q:=0) runUnderlying50 sizeOf3 rfl rfl (by decide) (by decide) rfl) fun a s=>?_
     refine gn 2 [23,25] [4] s hC rfl rfl rfl fun a s=>?_
     refine gt s 26 rfl ⟨_,rfl,rfl⟩ rfl hC (fun w hC=>M9 (q:=0) runUnderlying50 sizeOf3 rfl rfl (by decide) (by decide) rfl) fun a s=>?_
     refine gt s 27 rfl ⟨_,rfl,rfl⟩ rfl hC (fun w hC=>I9 (hC.ownAt 4 rfl) rfl isAgg3 rfl) fun a s=>?_
     refine ho 24 rfl ?_
     refine x9 s (a3n h4313 d.bdom (d.bE 6 rfl)) (j3 call15 rfl) ⟨_,rfl,rfl⟩ rfl rfl ?_
     rintro v4332 Sv4329 w a h4330 rfl s
     have d:=d.callB h4330
     refine h_n [0,1,2,3,4,5,6,7] [] d rfl rfl fun hC=>?_
     refine ho 28 rfl ?_
     refine x9 s (a6f h4315 d.bdom (d.bE 6 rfl)) (j3 call39 rfl) ⟨_,rfl,rfl⟩ rfl rfl ?_
     rintro v4337 Sv4334 w a h4335 rfl s
     have d:=d.callB h4335
     refine h_n [0,1,2,3,4,5,6,7] [] d rfl rfl fun hC=>?_
     refine gt s 29 rfl ⟨_,rfl,rfl⟩ rfl hC (fun w hC=>a7u rfl rfl) fun a s=>?_
     refine gF s 30 rfl rfl hC rfl rfl h4312 fun a s=>?_
     refine gm s 31 rfl rfl rfl hC fun a s=>?_
     have s:=s.bT 210 rfl h4317
     refine gn 9 [32,33,34,35,36,37,38,39,40] [] s hC rfl rfl rfl fun a s=>?_
     refine gT s 41 rfl rfl hC rfl rfl h4318 fun a s=>?_
     refine y7 (by kernel_rfl) ?_
     exact ⟨Sv4249,wj s d [5,6,7] [4,5,6,7,8,9]⟩
    have h4339:=F7 hc4269 h4317
    obtain ⟨rv4341,h4340,h4339⟩:=H5 h4339
    obtain ⟨rv4343,h4342,h4339⟩:=H5 h4339
    refine h_c [0,1,2,3,4,5,6,7] [] d rfl rfl (by kernel_rfl) rfl fun hC d=>?_
    refine gn 4 [0,1,2,3] [] s hC rfl rfl rfl fun a s=>?_
    have s:=s.bF 182 rfl h4271
    refine gn 2 [4,5] [] s hC rfl rfl rfl fun a s=>?_
    refine ho 6 rfl ?_
    refine x9 s (a3v h4282 d.bdom (d.bRow 3 rfl 3 rfl) (d.bRow 2 rfl 2 rfl)) (j3 call16 rfl) ⟨_,rfl,rfl⟩ rfl rfl ?_
    rintro v4347 Sv4344 w a h4345 rfl s
    have d:=d.callB h4345
    refine h_n [0,1,2,3,4,5,6,7] [] d rfl rfl fun hC=>?_
    refine gt s 7 rfl ⟨_,rfl,rfl⟩ rfl hC (fun w hC=>a9k rfl) fun a s=>?_
    refine gF s 8 rfl rfl hC rfl rfl h4281 fun a s=>?_
    refine gm s 9 rfl rfl rfl hC fun a s=>?_
    refine gO 4 188 [10,11,12,13] [] s hC rfl rfl rfl rfl rfl rfl fun a s=>?_
    refine gm s 14 rfl rfl rfl hC fun a s=>?_
    have s:=s.bF 193 rfl h4284
    refine gn 2 [15,16] [] s hC rfl rfl rfl fun a s=>?_
    refine ho 17 rfl ?_
    refine x9 s (a2k h4296 d.bdom (d.bRow 1 rfl 1 rfl) (d.bRow 0 rfl 0 rfl)) (j3 call38 rfl) ⟨_,rfl,rfl⟩ rfl rfl ?_
    rintro v4352 Sv4349 w a h4350 rfl s
    have d:=d.callB h4350
    refine h_n [0,1,2,3,4,5,6,7] [] d rfl rfl fun hC=>?_
    refine gt s 18 rfl ⟨_,rfl,rfl⟩ rfl hC (fun w hC=>a9k rfl) fun a s=>?_
    refine gF s 19 rfl rfl hC rfl rfl h4295 fun a s=>?_
    refine gm s 20 rfl rfl rfl hC fun a s=>?_
    have s:=s.bF 199 rfl h4298
    refine gt s 21 rfl ⟨_,rfl,rfl⟩ rfl hC (fun w hC=>O5 rfl) fun a s=>?_
    refine gt s 22 rfl ⟨_,rfl,rfl⟩ rfl hC (fun w hC=>M9 (q:=0) runUnderlying50 sizeOf3 rfl rfl (by decide) (by decide) rfl) fun a s=>?_
    refine gn 2 [23,25] [4] s hC rfl rfl rfl fun a s=>?_
    refine gt s 26 rfl ⟨_,rfl,rfl⟩ rfl hC (fun w hC=>M9 (q:=0) runUnderlying50 sizeOf3 rfl rfl (by decide) (by decide) rfl) fun a s=>?_
    refine gt s 27 rfl ⟨_,rfl,rfl⟩ rfl hC (fun w hC=>I9 (hC.ownAt 4 rfl) rfl isAgg3 rfl) fun a s=>?_
    refine ho 24 rfl ?_
    refine x9 s (a3n h4313 d.bdom (d.bE 6 rfl)) (j3 call15 rfl) ⟨_,rfl,rfl⟩ rfl rfl ?_
    rintro v4357 Sv4354 w a h4355 rfl s
    have d:=d.callB h4355
    refine h_n [0,1,2,3,4,5,6,7] [] d rfl rfl fun hC=>?_
    refine ho 28 rfl ?_
    refine x9 s (a6f h4315 d.bdom (d.bE 6 rfl)) (j3 call39 rfl) ⟨_,rfl,rfl⟩ rfl rfl ?_
    rintro v4362 Sv4359 w a h4360 rfl s
    have d:=d.callB h4360
    refine h_n [0,1,2,3,4,5,6,7] [] d rfl rfl fun hC=>?_
    refine gt s 29 rfl ⟨_,rfl,rfl⟩ rfl hC (fun w hC=>a7u rfl rfl) fun a s=>?_
    refine gF s 30 rfl rfl hC rfl rfl h4312 fun a s=>?_
    refine gm s 31 rfl rfl rfl hC fun a s=>?_
    have s:=s.bF 210 rfl h4317
    refine gt s 32 rfl ⟨_,rfl,rfl⟩ rfl hC (fun w hC=>O5 rfl) fun a s=>?_
    refine gt s 33 rfl ⟨_,rfl,rfl⟩ rfl hC (fun w hC=>M9 (q:=1) runUnderlying50 sizeOf3 rfl rfl (by decide) (by decide) rfl) fun a s=>?_
    refine gn 2 [34,36] [4] s hC rfl rfl rfl fun a s=>?_
    refine gt s 37 rfl ⟨_,rfl,rfl⟩ rfl hC (fun w hC=>M9 (q:=1) runUnderlying50 sizeOf3 rfl rfl (by decide) (by decide) rfl) fun a s=>?_
    refine gt s 38 rfl ⟨_,rfl,rfl⟩ rfl hC (fun w hC=>I9 (hC.ownAt 4 rfl) rfl isAgg3 rfl) fun a s=>?_
    refine ho 35 rfl ?_
    refine x9 s (a3n h4340 d.bdom (d.bE 6 rfl)) (j3 call15 rfl) ⟨_,rfl,rfl⟩ rfl rfl ?_
    rintro v4367 Sv4364 w a h4365 rfl s
    have d:=d.callB h4365
    refine h_n [0,1,2,3,4,5,6,7] [] d rfl rfl fun hC=>?_
    refine ho 39 rfl ?_
    refine x9 s (a6f h4342 d.bdom (d.bE 6 rfl)) (j3 call39 rfl) ⟨_,rfl,rfl⟩ rfl rfl ?_
    rintro v4372 Sv4369 w a h4370 rfl s
    have d:=d.callB h4370
    refine h_n [0,1,2,3,4,5,6,7] [] d rfl rfl fun hC=>?_
    refine gt s 40 rfl ⟨_,rfl,rfl⟩ rfl hC (fun w hC=>a7u rfl rfl) fun a s=>?_
    refine gF s 41 rfl rfl hC rfl rfl h4339 fun a s=>?_
    refine y7 (by kernel_rfl) ?_
    exact ⟨Sv4249,wj s d [5,6,7] [4,5,6,7,8,9]⟩
   rintro a w ⟨Sv4270,s,d⟩
   refine tn (cd s u rfl (fun u=>?_) fun u=>?_)
   ·refine sz0 1 s rfl fun a s=>?_
    obtain rfl:=oi u
    have h4376:=hd4122 _ rfl
    subst h4376
    have h4377:=hd3206 _ rfl
    subst h4377
    exact wp_ret (A8 (j6 (j6 (A8 (j6 (A8 (j6 (j6 (A8 (j6 (rt s rfl (d.ret rfl))))))))))))
   refine wp_skip (l8 (tn (wp_region_lit (rz0 2 s rfl fun a s=>?_))))
   exact ⟨_,io u,Sv4270,wj s d [0,1,2] [0,1,2,3,4,5]⟩
  obtain ⟨rv4810,u,h4811⟩:=a0x u
  have h4811:=(hd4122 _ h4811.symm).symm
  subst h4811
  refine wp_exit (j5 (j5 (o9 (tn (sn0 2 s rfl fun a s=>?_)))))
  refine o7 (α:=Int) (vs:=Z23) (cs:=Z23) (xs:=([1,250000,1000000,1000001]:List Int)) s d S9 rfl rfl rfl rfl rfl rfl ⟨⟨_,rfl,rfl⟩,⟨⟨_,rfl,rfl⟩,⟨⟨_,rfl,rfl⟩,⟨⟨_,rfl,rfl⟩,rfl⟩⟩⟩⟩ rfl trivial rfl fun b4379 a w s d=>?_
  obtain ⟨rv4381,h4380,u⟩:=bt u
  obtain ⟨Sv4385,d⟩:=D6 (α:=Int) d 0 rfl 0 rfl
  refine cR s (D8 h4380 d.dom (d.ins [0] (by decide) rfl) (d.envAt 5 rfl) (d.envAt 0 rfl)) (j3 call24 rfl) rfl ?_
  rintro v4389 Sv4386 w a h4387 ⟨p4382,k4383,rfl,h4390,h4384⟩ s
  have d:=(d.callO [0] [1,2] (by decide) rfl h4387 h4390).addE (e:=Sq p4382 k4383 rv4381.2.L) h4384
  refine o7 (α:=Int) (vs:=[iv tolerance15,iv 0,iv rv4381.1]) (cs:=[iv tolerance15,iv 0,iv rv4381.1]) (xs:=(b0r tolerance15 rv4381)) s d S9 rfl rfl rfl rfl rfl rfl ⟨⟨_,rfl,rfl⟩,⟨⟨_,rfl,rfl⟩,⟨⟨_,rfl,rfl⟩,rfl⟩⟩⟩ rfl trivial rfl fun b4392 a w s d=>?_
  refine rz0 2 s rfl fun a s=>?_
  refine wp_block (u7 (fun sv4548 a w=>∃ Sv4650,Sl 353 [(2,sl p10 k11 segments9),(3,iv from13),(4,iv to14),(5,iv tolerance15),(17,pt b517),(18,sl p528 k529 rv527.1),(22,sl p3650 k3652 x3643),(117,sl (ad b607) (a3P rv527 odd605 raw5).length (a3P rv527 odd605 raw5)),(118,iv ((a3P rv527 odd605 raw5).length:Int)),(119,iv sv1909.2.2),(226,sl (ad b4392) (b0r tolerance15 rv4381).length (b0r tolerance15 rv4381)),(227,iv ((b0r tolerance15 rv4381).length:Int)),(228,iv sv4548)] a∧Wd ⟨w0,S0,[]⟩ Sv4650 [.box b517 (C87 rv4381.2 p4382 k4383) 87,.row (ad b607) (a3P rv527 odd605 raw5).length (a3P rv527 odd605 raw5).length [sl p528 k529 rv527.1,sl p600 k601 odd605,sl p6 k7 raw5] 28 1,.row (ad b4392) (b0r tolerance15 rv4381).length (b0r tolerance15 rv4381).length [iv tolerance15,iv 0,iv rv4381.1] 3 1] [Sq p10 k11 segments9,Sq p528 k529 rv527.1,Sq p3650 k3652 x3643,Sq p4382 k4383 rv4381.2.L,l7 [sl p528 k529 rv527.1,sl p600 k601 odd605,sl p6 k7 raw5] (a3P rv527 odd605 raw5),l7 [iv tolerance15,iv 0,iv rv4381.1] (b0r tolerance15 rv4381)] w) 0 u ⟨Sv4386,wj s d [1,2,0] [4,5,6,1,8,0]⟩ ?_)
  repeat clear u
  rintro sv4548 a w tv4702 ⟨Sv4650,s,d⟩ u hd4701
  refine sz0 1 s rfl fun a s=>?_
  refine wp_seq (cd s u rfl (fun u=>?_) fun u=>?_)
  ·refine sk (wp_seq (wp_block (sr ?_)))
   obtain ⟨x4758,h4756,u⟩:=bt u
   obtain ⟨q4762,c4763,h4759,h4760,h4764,h4757⟩:=d.elemRK (α:=Int) 2 rfl 5 rfl h4756
   obtain ⟨_,rfl,rfl⟩:=h4757
   refine sv s (o6 runUnderlying22 sizeOf3 rfl rfl h4759.1 h4759.2 h4760) rfl fun a s=>?_
   refine sv s (A7 (j:=0) (d.ownAt 2 rfl) rfl isAgg3 h4764 rfl) rfl fun a s=>?_
   refine rz0 1 s rfl fun a s=>?_
   refine sn0 2 s rfl fun a s=>?_
   obtain ⟨rv4766,h4765,u⟩:=bt u
   refine cR s (a7D h4765 d.dom (d.envAt 2 rfl)) (j3 call25 rfl) rfl ?_
   rintro v4774 Sv4771 w a h4772 ⟨p4767,k4768,c4770,rfl,h4775,h4769⟩ s
   have d:=(d.callN h4772 h4775).addE (e:=l7 c4770 rv4766.1) h4769
   refine rz0 5 s rfl fun a s=>?_
   refine sn0 2 s rfl fun a s=>?_
   obtain ⟨rv4777,h4776,u⟩:=bt u
   refine cR s (a6F h4776 d.dom (d.envAt 3 rfl)) (j3 call40 rfl) rfl ?_
   rintro v4785 Sv4782 w a h4783 ⟨p4778,k4779,c4781,rfl,h4786,h4780⟩ s
   have d:=(d.callN h4783 h4786).addE (e:=l7 c4781 rv4777.1) h4780
   refine rz0 5 s rfl fun a s=>?_
   refine sn0 4 s rfl fun a s=>?_
   obtain ⟨c4795,hc4795,u⟩:=bt u
   refine C7 5 (fun a w=>∃ Sv4796,Sl 353 [(2,sl p10 k11 segments9),(3,iv from13),(4,iv to14),(5,iv tolerance15),(17,pt b517),(18,sl p528 k529 rv527.1),(22,sl p3650 k3652 x3643),(117,sl (ad b607) (a3P rv527 odd605 raw5).length (a3P rv527 odd605 raw5)),(118,iv ((a3P rv527 odd605 raw5).length:Int)),(119,iv sv1909.2.2),(226,sl (ad b4392) (b0r tolerance15 rv4381).length (b0r tolerance15 rv4381)),(227,iv ((b0r tolerance15 rv4381).length:Int)),(228,iv sv4548),(252,.bool c4795)] a∧Wd ⟨w0,S0,[]⟩ Sv4796 [.box b517 (C87 rv4381.2 p4382 k4383) 87,.row (ad b607) (a3P rv527 odd605 raw5).length (a3P rv527 odd605 raw5).length [sl p528 k529 rv527.1,sl p600 k601 odd605,sl p6 k7 raw5] 28 1,.row (ad b4392) (b0r tolerance15 rv4381).length (b0r tolerance15 rv4381).length [iv tolerance15,iv 0,iv rv4381.1] 3 1] [Sq p10 k11 segments9,Sq p528 k529 rv527.1,Sq p3650 k3652 x3643,Sq p4382 k4383 rv4381.2.L,l7 [sl p528 k529 rv527.1,sl p600 k601 odd605,sl p6 k7 raw5] (a3P rv527 odd605 raw5),l7 [iv tolerance15,iv 0,iv rv4381.1] (b0r tolerance15 rv4381)] w) ?_ ?_
   ·rcases Bool.eq_false_or_eq_true (rv4766.2 != rv4777.2) with h4794 | h4794
    ·have s:=s.bT 247 rfl h4794
     have u:=E9 hc4795 h4794
     refine rn0 5 s rfl fun a s=>?_
     refine wpList_nil ?_
     obtain rfl:=oi u
     exact tn ⟨Sv4782,wj s d [2,3,4] [2,3,4,5,6,7]⟩
    have s:=s.bF 247 rfl h4794
    have u:=F7 hc4795 h4794
    refine rn0 2 s rfl fun a s=>?_
    obtain ⟨rv4798,h4797,u⟩:=bt u
    refine x9 s (a4D h4797 d.bdom (d.bRow 1 rfl 1 rfl) (d.bRow 0 rfl 0 rfl)) (j3 call32 rfl) ⟨_,rfl,rfl⟩ rfl rfl ?_
    rintro v4802 Sv4799 w a h4800 rfl s
    have d:=d.callB h4800
    refine rn0 2 s rfl fun a s=>?_
    refine wpList_nil ?_
    obtain rfl:=oi u
    exact tn ⟨Sv4782,wj s d [2,3,4] [2,3,4,5,6,7]⟩
   rintro a w ⟨Sv4796,s,d⟩
   refine nl (cd s u rfl (fun u=>?_) fun u=>?_)
   ·refine sz0 1 s rfl fun a s=>?_
    obtain rfl:=oi u
    have h4806:=hd4701 _ rfl
    subst h4806
    have h4807:=hd3206 _ rfl
    subst h4807
    exact wp_ret (A8 (j6 (j6 (A8 (A8 (j6 (j6 (A8 (j6 (rt s rfl (d.ret rfl)))))))))))
   refine wp_skip (l8 (tn (wp_region_lit (rz0 2 s rfl fun a s=>?_))))
   exact ⟨_,io u,Sv4796,wj s d [0,1,2] [0,1,2,3,4,5]⟩
  obtain ⟨rv4808,u,h4809⟩:=a0x u
  have h4809:=(hd4701 _ h4809.symm).symm
  subst h4809
  refine wp_exit (j5 (j5 (o9 (l8 (tn (wp_region_lit (rz0 2 s rfl fun a s=>?_)))))))
  exact ⟨_,io u,p4382,k4383,Sv4650,wj s d [0,1] [0,1,3,4]⟩
 obtain ⟨rv7994,u,h7995⟩:=a0x u
 have h7995:=(hd3206 _ h7995.symm).symm
 subst h7995
 refine wp_exit (j5 (j5 (o9 (tn (sn0 1 s rfl fun a s=>?_)))))
 obtain ⟨rv4813,h4812,u⟩:=bt u
 refine cR s (a6F h4812 d.dom (d.envAt 1 rfl)) (j3 call40 rfl) rfl ?_
 rintro v4821 Sv4818 w a h4819 ⟨p4814,k4815,c4817,rfl,h4822,h4816⟩ s
 have d:=(d.callN h4819 h4822).addE (e:=l7 c4817 rv4813.1) h4816
 refine rz0 5 s rfl fun a s=>?_
 refine wp_seq (sn0 3 s rfl fun a s=>?_)
 obtain ⟨rv4824,h4823,u⟩:=bt u
 refine cR s (a5k h4823 d.dom (d.ins [1] (by decide) rfl) (d.envAt 3 rfl)) (j3 call41 rfl) rfl ?_
 rintro v4835 Sv4832 w a h4833 ⟨p4825,k4826,c4828,p4829,k4830,rfl,h4836,h4827,h4831⟩ s
 have d:=((d.callO [1] [0,2] (by decide) rfl h4833 h4836).addE (e:=l7 c4828 rv4824.1.Samples) h4827).addE (e:=Sq p4829 k4830 rv4824.2.L) h4831
 refine mv s rfl rfl fun a s=>?_
 obtain ⟨rv4838,h4837,u⟩:=bt u
 refine cR s (a5k h4837 d.dom (d.ins [1] (by decide) rfl) (d.envAt 0 rfl)) (j3 call41 rfl) rfl ?_
 rintro v4849 Sv4846 w a h4847 ⟨p4839,k4840,c4842,p4843,k4844,rfl,h4850,h4841,h4845⟩ s
 have d:=((d.callO [1] [0,2,3] (by decide) rfl h4847 h4850).addE (e:=l7 c4842 rv4838.1.Samples) h4841).addE (e:=Sq p4843 k4844 rv4838.2.L) h4845
 obtain ⟨Sv4853,d⟩:=D6 (α:=Int) d 2 rfl 3 rfl
 obtain ⟨Sv4854,d⟩:=D6 (α:=Int) d 0 rfl 2 rfl
 refine o7 (α:=Segment) (vs:=[V64 rv4824.1 p4825 k4826,V64 rv4838.1 p4839 k4840]) (cs:=[iv rv4824.1.Start,iv rv4824.1.First,iv rv4824.1.Rate.Num,iv rv4824.1.Rate.Den,iv rv4824.1.Error,sl p4825 k4826 rv4824.1.Samples,iv rv4838.1.Start,iv rv4838.1.First,iv rv4838.1.Rate.Num,iv rv4838.1.Rate.Den,iv rv4838.1.Error,sl p4839 k4840 rv4838.1.Samples]) (xs:=([rv4824.1,rv4838.1]:List Segment)) s d El60 rfl rfl rfl rfl rfl rfl ⟨⟨_,_,_,_,_,_,rfl,rfl,rfl,rfl,rfl,rfl,⟨_,_,_,rfl,d.envAt 1 rfl⟩⟩,⟨⟨_,_,_,_,_,_,rfl,rfl,rfl,rfl,rfl,rfl,⟨_,_,_,rfl,d.envAt 0 rfl⟩⟩,rfl⟩⟩ rfl trivial rfl fun b4852 a w s d=>?_
 obtain ⟨Sv4857,d⟩:=D6 (α:=Segment) d 2 rfl 7 rfl
 obtain ⟨Sv4858,d⟩:=D6 (α:=Segment) d 0 rfl 1 rfl
 refine o7 (α:=(List Segment)) (vs:=(b1k p4814 k4815 rv4813 p10 k11 segments9 b4852 rv4824 rv4838)) (cs:=(b1k p4814 k4815 rv4813 p10 k11 segments9 b4852 rv4824 rv4838)) (xs:=(a3O rv4813 segments9 rv4824 rv4838)) s d El83 rfl rfl rfl rfl rfl rfl ⟨⟨_,rfl,⟨_,_,_,rfl,d.envAt 1 rfl⟩⟩,⟨⟨_,rfl,⟨_,_,_,rfl,d.envAt 10 rfl⟩⟩,⟨⟨_,rfl,⟨_,_,_,rfl,d.envAt 0 rfl⟩⟩,rfl⟩⟩⟩ rfl trivial rfl fun b4856 a w s d=>?_
 refine rz0 2 s rfl fun a s=>?_
 refine wp_block (u7 (fun sv5843 a w=>∃ p6497 k6498 Sv6499,Sl 353 [(3,iv from13),(4,iv to14),(17,pt b517),(267,sl (ad b4856) (a3O rv4813 segments9 rv4824 rv4838).length (a3O rv4813 segments9 rv4824 rv4838)),(268,iv ((a3O rv4813 segments9 rv4824 rv4838).length:Int)),(269,iv sv5843.2.2)] a∧Wd ⟨w0,S0,[]⟩ Sv6499 [.box b517 [sl p6497 k6498 sv5843.1,iv sv5843.2.1] 87,.row (ad b4856) (a3O rv4813 segments9 rv4824 rv4838).length (a3O rv4813 segments9 rv4824 rv4838).length (b1k p4814 k4815 rv4813 p10 k11 segments9 b4852 rv4824 rv4838) 60 1] [Sq p6497 k6498 sv5843.1,l7 (b1k p4814 k4815 rv4813 p10 k11 segments9 b4852 rv4824 rv4838) (a3O rv4813 segments9 rv4824 rv4838)] w) (rv4838.2.L,rv4838.2.At,0) u ⟨p4843,k4844,Sv4858,wj s d [1,0] [6,0]⟩ ?_)
 repeat clear u
 rintro sv5843 a w tv6826 ⟨p6497,k6498,Sv6499,s,d⟩ u hd6825
 refine sz0 1 s rfl fun a s=>?_
 refine wp_seq (cd s u rfl (fun u=>?_) fun u=>?_)
 ·refine sk (wp_seq (wp_block (sr ?_)))
  obtain ⟨x7157,h7155,u⟩:=bt u
  obtain ⟨q7161,c7162,h7158,h7159,h7163,h7156⟩:=d.elemRK (α:=(List Segment)) 1 rfl 1 rfl h7155
  obtain ⟨_,rfl,⟨p7164,n7165,k7166,rfl,h7167⟩⟩:=h7156
  obtain rfl:=h7167.1
  have d:=d.addE (e:=SlA p7164 _ k7166 x7157) h7167
  refine sv s (o6 runUnderlying83 sizeOf60 rfl rfl h7158.1 h7158.2 h7159) rfl fun a s=>?_
  refine sv s (A7 (j:=0) (d.ownAt 1 rfl) rfl isAgg60 h7163 rfl) rfl fun a s=>?_
  refine rz0 1 s rfl fun a s=>?_
  refine wp_seq (sn0 2 s rfl fun a s=>?_)
  refine sv s (D7 (vs:=[(0,iv from13),(1,iv to14)]) b1H rfl rfl) rfl fun a s=>?_
  refine mv s rfl rfl fun a s=>?_
  obtain ⟨rv7169,h7168,u⟩:=bt u
  refine cR s (y5 h7168 d.dom (d.ins [0] (by decide) rfl) (d.envAt 1 rfl)) (j3 call30 rfl) rfl ?_
  rintro v7176 Sv7173 w a h7174 ⟨p7170,k7171,rfl,h7177,h7172⟩ s
  have d:=(d.callO [0] [1] (by decide) rfl h7174 h7177).addE (e:=Sq p7170 k7171 rv7169.2.L) h7172
  refine rn0 3 s rfl fun a s=>?_
  obtain ⟨rv7179,h7178,u⟩:=bt u
  refine cR s (y5 h7178 d.dom (d.ins [0] (by decide) rfl) (d.envAt 0 rfl)) (j3 call30 rfl) rfl ?_
  rintro v7186 Sv7183 w a h7184 ⟨p7180,k7181,rfl,h7187,h7182⟩ s
  have d:=(d.callO [0] [1] (by decide) rfl h7184 h7187).addE (e:=Sq p7180 k7181 rv7179.2.L) h7182
  refine rn0 2 s rfl fun a s=>?_
  refine sv s (D7 (vs:=[(0,iv (w64 (1000000000000+(w64 (333333 * rv7169.1))))),(1,iv (w64 (1000000000000+(w64 (333333 * rv7179.1)))))]) b1H rfl rfl) rfl fun a s=>?_
  refine o7 (α:=(Arr2 Int)) (vs:=[.agg #[iv from13,iv to14],.agg #[iv (w64 (1000000000000+(w64 (333333 * rv7169.1)))),iv (w64 (1000000000000+(w64 (333333 * rv7179.1))))]]) (cs:=(E8_6 from13 to14 rv7169 rv7179)) (xs:=(b0q from13 to14 rv7169 rv7179)) s d El80 rfl rfl rfl rfl rfl rfl ⟨⟨_,_,rfl,rfl,rfl⟩,⟨⟨_,_,rfl,rfl,rfl⟩,rfl⟩⟩ rfl trivial rfl fun b7189 a w s d=>?_
  refine rz0 2 s rfl fun a s=>?_
  refine wp_block (u7 (fun sv7348 a w=>∃ Sv7452,Sl 353 [(3,iv from13),(4,iv to14),(17,pt b517),(42,sl p7164 k7166 x7157),(267,sl (ad b4856) (a3O rv4813 segments9 rv4824 rv4838).length (a3O rv4813 segments9 rv4824 rv4838)),(268,iv ((a3O rv4813 segments9 rv4824 rv4838).length:Int)),(269,iv sv5843.2.2),(285,sl (ad b7189) (b0q from13 to14 rv7169 rv7179).length (b0q from13 to14 rv7169 rv7179)),(286,iv ((b0q from13 to14 rv7169 rv7179).length:Int)),(287,iv sv7348)] a∧Wd ⟨w0,S0,[]⟩ Sv7452 [.box b517 (C87 rv7179.2 p7180 k7181) 87,.row (ad b4856) (a3O rv4813 segments9 rv4824 rv4838).length (a3O rv4813 segments9 rv4824 rv4838).length (b1k p4814 k4815 rv4813 p10 k11 segments9 b4852 rv4824 rv4838) 60 1,.row (ad b7189) (b0q from13 to14 rv7169 rv7179).length (b0q from13 to14 rv7169 rv7179).length (E8_6 from13 to14 rv7169 rv7179) 50 2] [Sq p7164 k7166 x7157,Sq p7180 k7181 rv7179.2.L,l7 (b1k p4814 k4815 rv4813 p10 k11 segments9 b4852 rv4824 rv4838) (a3O rv4813 segments9 rv4824 rv4838),l7 (E8_6 from13 to14 rv7169 rv7179) (b0q from13 to14 rv7169 rv7179)] w) 0 u ⟨Sv7183,wj s d [1,2,0] [3,1,5,0]⟩ ?_)
  repeat clear u
  rintro sv7348 a w tv7505 ⟨Sv7452,s,d⟩ u hd7504
  refine sz0 1 s rfl fun a s=>?_
  refine wp_seq (cd s u rfl (fun u=>?_) fun u=>?_)
  ·refine sk (wp_seq (wp_block (sr ?_)))
   obtain ⟨x7562,h7560,u⟩:=bt u
   obtain ⟨q7566,c7567,h7563,h7564,h7568,h7561⟩:=d.elemRK (α:=(Arr2 Int)) 2 rfl 3 rfl h7560
   obtain ⟨_,_,rfl,rfl,rfl⟩:=h7561
   refine sv s (o6 runUnderlying80 sizeOf50 rfl rfl h7563.1 h7563.2 h7564) rfl fun a s=>?_
   refine sv s (I1 (j:=0) (d.ownAt 2 rfl) rfl isAgg50 sizeOf50 h7568 rfl rfl) rfl fun a s=>?_
   refine wa [iv 0,iv 0] s d zeroValue50 fun b7569 a w s d=>?_
   refine ws [iv x7562.e0,iv x7562.e1] s d 0 rfl rfl rfl sizeOf50 fun a w s d=>?_
   refine nl (sn0 1 s rfl fun a s=>?_)
   refine sv s (M9 (q:=0) runUnderlying50 sizeOf3 rfl rfl (by decide) (by decide) rfl) rfl fun a s=>?_
   refine sv s (I9 (d.ownAt 0 rfl) rfl isAgg3 rfl) rfl fun a s=>?_
   refine sv s (M9 (q:=1) runUnderlying50 sizeOf3 rfl rfl (by decide) (by decide) rfl) rfl fun a s=>?_
   refine sv s (I9 (d.ownAt 0 rfl) rfl isAgg3 rfl) rfl fun a s=>?_
   obtain ⟨rv7571,h7570,u⟩:=bt u
   refine cR s (a8k h7570 d.dom (d.envAt 0 rfl)) (j3 call33 rfl) rfl ?_
   rintro v7579 Sv7576 w a h7577 ⟨p7572,k7573,c7575,rfl,h7580,h7574⟩ s
   have d:=(d.callN h7577 h7580).addE (e:=l7 c7575 rv7571.1) h7574
   refine rz0 5 s rfl fun a s=>?_
   refine sn0 1 s rfl fun a s=>?_
   refine sv s (M9 (q:=0) runUnderlying50 sizeOf3 rfl rfl (by decide) (by decide) rfl) rfl fun a s=>?_
   refine sv s (I9 (d.ownAt 1 rfl) rfl isAgg3 rfl) rfl fun a s=>?_
   refine sv s (M9 (q:=1) runUnderlying50 sizeOf3 rfl rfl (by decide) (by decide) rfl) rfl fun a s=>?_
   refine sv s (I9 (d.ownAt 1 rfl) rfl isAgg3 rfl) rfl fun a s=>?_
   obtain ⟨rv7582,h7581,u⟩:=bt u
   refine cR s (b1v h7581 d.dom (d.envAt 1 rfl)) (j3 call42 rfl) rfl ?_
   rintro v7590 Sv7587 w a h7588 ⟨p7583,k7584,c7586,rfl,h7591,h7585⟩ s
   have d:=(d.callN h7588 h7591).addE (e:=l7 c7586 rv7582.1) h7585
   refine rz0 5 s rfl fun a s=>?_
   refine sn0 4 s rfl fun a s=>?_
   obtain ⟨c7600,hc7600,u⟩:=bt u
   refine C7 5 (fun a w=>∃ Sv7601,Sl 353 [(3,iv from13),(4,iv to14),(17,pt b517),(42,sl p7164 k7166 x7157),(267,sl (ad b4856) (a3O rv4813 segments9 rv4824 rv4838).length (a3O rv4813 segments9 rv4824 rv4838)),(268,iv ((a3O rv4813 segments9 rv4824 rv4838).length:Int)),(269,iv sv5843.2.2),(285,sl (ad b7189) (b0q from13 to14 rv7169 rv7179).length (b0q from13 to14 rv7169 rv7179)),(286,iv ((b0q from13 to14 rv7169 rv7179).length:Int)),(287,iv sv7348),(317,.bool c7600)] a∧Wd ⟨w0,S0,[]⟩ Sv7601 [.box b517 (C87 rv7179.2 p7180 k7181) 87,.row (ad b4856) (a3O rv4813 segments9 rv4824 rv4838).length (a3O rv4813 segments9 rv4824 rv4838).length (b1k p4814 k4815 rv4813 p10 k11 segments9 b4852 rv4824 rv4838) 60 1,.row (ad b7189) (b0q from13 to14 rv7169 rv7179).length (b0q from13 to14 rv7169 rv7179).length (E8_6 from13 to14 rv7169 rv7179) 50 2] [Sq p7164 k7166 x7157,Sq p7180 k7181 rv7179.2.L,l7 (b1k p4814 k4815 rv4813 p10 k11 segments9 b4852 rv4824 rv4838) (a3O rv4813 segments9 rv4824 rv4838),l7 (E8_6 from13 to14 rv7169 rv7179) (b0q from13 to14 rv7169 rv7179)] w) ?_ ?_
   ·rcases Bool.eq_false_or_eq_true (rv7571.2 != rv7582.2) with h7599 | h7599
    ·have s:=s.bT 312 rfl h7599
     have u:=E9 hc7600 h7599
     refine rn0 5 s rfl fun a s=>?_
     refine wpList_nil ?_
     obtain rfl:=oi u
     exact tn ⟨Sv7587,wj s d [3,4,5] [2,3,4,5]⟩
    have s:=s.bF 312 rfl h7599
    have u:=F7 hc7600 h7599
    refine rn0 2 s rfl fun a s=>?_
    obtain ⟨rv7603,h7602,u⟩:=bt u
    refine x9 s (a4D h7602 d.bdom (d.bRow 1 rfl 1 rfl) (d.bRow 0 rfl 0 rfl)) (j3 call32 rfl) ⟨_,rfl,rfl⟩ rfl rfl ?_
    rintro v7607 Sv7604 w a h7605 rfl s
    have d:=d.callB h7605
    refine rn0 2 s rfl fun a s=>?_
    refine wpList_nil ?_
    obtain rfl:=oi u
    exact tn ⟨Sv7587,wj s d [3,4,5] [2,3,4,5]⟩
   rintro a w ⟨Sv7601,s,d⟩
   refine nl (cd s u rfl (fun u=>?_) fun u=>?_)
   ·refine sz0 1 s rfl fun a s=>?_
    obtain rfl:=oi u
    have h7611:=hd7504 _ rfl
    subst h7611
    have h7612:=hd6825 _ rfl
    subst h7612
    exact wp_ret (A8 (j6 (j6 (A8 (j6 (A8 (j6 (j6 (A8 (j6 (rt s rfl (d.ret rfl))))))))))))
   refine wp_skip (l8 (tn (wp_region_lit (rz0 2 s rfl fun a s=>?_))))
   exact ⟨_,io u,Sv7601,wj s d [0,1,2] [0,1,2,3]⟩
  obtain ⟨rv7983,u,h7984⟩:=a0x u
  have h7984:=(hd7504 _ h7984.symm).symm
  subst h7984
  refine wp_exit (j5 (j5 (o9 (tn (sz0 3 s rfl fun a s=>?_)))))
  refine wp_block (u7 (fun sv7744 a w=>∃ Sv7830,Sl 353 [(3,iv from13),(4,iv to14),(17,pt b517),(267,sl (ad b4856) (a3O rv4813 segments9 rv4824 rv4838).length (a3O rv4813 segments9 rv4824 rv4838)),(268,iv ((a3O rv4813 segments9 rv4824 rv4838).length:Int)),(269,iv sv5843.2.2),(319,sl p7164 k7166 x7157),(320,iv (x7157.length:Int)),(321,iv sv7744)] a∧Wd ⟨w0,S0,[]⟩ Sv7830 [.box b517 (C87 rv7179.2 p7180 k7181) 87,.row (ad b4856) (a3O rv4813 segments9 rv4824 rv4838).length (a3O rv4813 segments9 rv4824 rv4838).length (b1k p4814 k4815 rv4813 p10 k11 segments9 b4852 rv4824 rv4838) 60 1] [Sq p7164 k7166 x7157,Sq p7180 k7181 rv7179.2.L,l7 (b1k p4814 k4815 rv4813 p10 k11 segments9 b4852 rv4824 rv4838) (a3O rv4813 segments9 rv4824 rv4838)] w) 0 u ⟨Sv7452,wj s d [0,1] [0,1,2]⟩ ?_)
  repeat clear u
  rintro sv7744 a w tv7874 ⟨Sv7830,s,d⟩ u hd7873
  refine sz0 1 s rfl fun a s=>?_
  refine wp_seq (cd s u rfl (fun u=>?_) fun u=>?_)
  ·refine sk (wp_seq (wp_block (sr ?_)))
   obtain ⟨x7922,h7920,u⟩:=bt u
   obtain ⟨b7928,o7929,q7926,c7927,h7930,h7923,h7924,h7925,h7921⟩:=d.elemV 0 rfl h7920
   have hsv7931:=s
   have hwv7932:=d
   subst h7930
   have s:=hsv7931
   have d:=hwv7932
   obtain ⟨_,_,_,_,_,_,rfl,rfl,rfl,rfl,rfl,rfl,⟨p7933,n7934,k7935,rfl,h7936⟩⟩:=h7921
   obtain rfl:=h7936.1
   have d:=(d.addE (e:=SlA p7933 _ k7935 x7922.Samples) h7936).addE h7925
   refine sv s (o6 runUnderlying60 sizeOf64 rfl rfl h7923.1 h7923.2 h7924) rfl fun a s=>?_
   refine sv s (G5 (j:=0) (d.ceAt 0 rfl) rfl isAgg64 sizeOf64 rfl rfl) rfl fun a s=>?_
   refine wa Z19 s d zeroValue64 fun b7937 a w s d=>?_
   refine ws (C64 x7922 p7933 k7935) s d 0 rfl rfl rfl sizeOf64 fun a w s d=>?_
   refine nl (sn 1 [0] s d rfl rfl fun a s=>?_)
   obtain ⟨rv7939,h7938,u⟩:=bt u
   refine cV s d (a6l h7938 d.bdom (d.bE 1 rfl)) (j3 call43 rfl) rfl fun a w s d=>?_
   refine rn0 3 s rfl fun a s=>?_
   refine wa [iv 0,iv 0] s d zeroValue71 fun b7945 a w s d=>?_
   refine ws (C71 rv7939.1) s d 0 rfl rfl rfl sizeOf71 fun a w s d=>?_
   refine rz0 1 s rfl fun a s=>?_
   refine sn 1 [1] s d rfl rfl fun a s=>?_
   obtain ⟨rv7947,h7946,u⟩:=bt u
   refine cV s d (a8z h7946 d.bdom (d.bE 1 rfl)) (j3 call44 rfl) rfl fun a w s d=>?_
   refine rn0 3 s rfl fun a s=>?_
   refine wa [iv 0,iv 0] s d zeroValue71 fun b7953 a w s d=>?_
   refine ws (C71 rv7947.1) s d 0 rfl rfl rfl sizeOf71 fun a w s d=>?_
   refine rz0 1 s rfl fun a s=>?_
   refine wp_seq ?_
   obtain ⟨c7958,hc7958,u⟩:=bt u
   refine A9 (fun a w=>∃ Sv7959,Sl 353 [(3,iv from13),(4,iv to14),(17,pt b517),(267,sl (ad b4856) (a3O rv4813 segments9 rv4824 rv4838).length (a3O rv4813 segments9 rv4824 rv4838)),(268,iv ((a3O rv4813 segments9 rv4824 rv4838).length:Int)),(269,iv sv5843.2.2),(319,sl (some ⟨b7928,o7929,none⟩) k7166 x7157),(320,iv (x7157.length:Int)),(321,iv sv7744),(349,.bool c7958)] a∧Wd ⟨w0,S0,[]⟩ Sv7959 [.box b517 (C87 rv7179.2 p7180 k7181) 87,.row (ad b4856) (a3O rv4813 segments9 rv4824 rv4838).length (a3O rv4813 segments9 rv4824 rv4838).length (b1k p4814 k4815 rv4813 p10 k11 segments9 b4852 rv4824 rv4838) 60 1] [Sq (some ⟨b7928,o7929,none⟩) k7166 x7157,Sq p7180 k7181 rv7179.2.L,l7 (b1k p4814 k4815 rv4813 p10 k11 segments9 b4852 rv4824 rv4838) (a3O rv4813 segments9 rv4824 rv4838)] w) ?_ ?_
   ·rcases Bool.eq_false_or_eq_true ((!((rv7939.1.From == rv7947.1.From) && ((rv7939.1.To == rv7947.1.To) && true))) || (rv7939.2 != rv7947.2)) with h7960 | h7960
    ·have h7961:=E9 hc7958 h7960
     refine h_c [0,1,2,3,4] [0] d rfl rfl (by kernel_rfl) rfl fun hC d=>?_
     refine gn 2 [0,1] [1,0] s hC rfl rfl rfl fun a s=>?_
     refine gv s 2 rfl rfl hC (fun w hC=>a6V (by kernel_rfl) rfl rfl (R4 runUnderlying71 (by kernel_rfl) (EqF.cons1 rfl isAgg3 rfl rfl (Q6 runUnderlying3) (EqF.cons1 rfl isAgg3 rfl rfl (Q6 runUnderlying3) EqF.nil)))) fun a s=>?_
     refine gm s 3 rfl rfl rfl hC fun a s=>?_
     refine gO 4 338 [4,5,6,7] [] s hC rfl rfl rfl rfl rfl rfl fun a s=>?_
     refine gm s 8 rfl rfl rfl hC fun a s=>?_
     have s:=s.bT 343 rfl h7960
     refine gn 5 [9,10,11,12,13] [] s hC rfl rfl rfl fun a s=>?_
     refine gT s 14 rfl rfl hC rfl rfl h7961 fun a s=>?_
     refine y7 (by kernel_rfl) ?_
     exact ⟨Sv7830,wj s d [3,4] [2,3,4]⟩
    have h7962:=F7 hc7958 h7960
    obtain ⟨rv7964,h7963,h7962⟩:=H5 h7962
    obtain ⟨rv7966,h7965,h7962⟩:=H5 h7962
    refine h_c [0,1,2,3,4] [0] d rfl rfl (by kernel_rfl) rfl fun hC d=>?_
    refine gn 2 [0,1] [1,0] s hC rfl rfl rfl fun a s=>?_
    refine gv s 2 rfl rfl hC (fun w hC=>a6V (by kernel_rfl) rfl rfl (R4 runUnderlying71 (by kernel_rfl) (EqF.cons1 rfl isAgg3 rfl rfl (Q6 runUnderlying3) (EqF.cons1 rfl isAgg3 rfl rfl (Q6 runUnderlying3) EqF.nil)))) fun a s=>?_
    refine gm s 3 rfl rfl rfl hC fun a s=>?_
    refine gO 4 338 [4,5,6,7] [] s hC rfl rfl rfl rfl rfl rfl fun a s=>?_
    refine gm s 8 rfl rfl rfl hC fun a s=>?_
    have s:=s.bF 343 rfl h7960
    refine gn 2 [9,11] [2,2] s hC rfl rfl rfl fun a s=>?_
    refine ho 10 rfl ?_
    refine x9 s (a0k h7963 d.bdom (d.bE 1 rfl)) (j3 call45 rfl) ⟨_,rfl,rfl⟩ rfl rfl ?_
    rintro v7970 Sv7967 w a h7968 rfl s
    have d:=d.callB h7968
    refine h_n [0,1,2,3,4] [0] d rfl rfl fun hC=>?_
    refine ho 12 rfl ?_
    refine x9 s (a2m h7965 d.bdom (d.bE 1 rfl)) (j3 call27 rfl) ⟨_,rfl,rfl⟩ rfl rfl ?_
    rintro v7975 Sv7972 w a h7973 rfl s
    have d:=d.callB h7973
    refine h_n [0,1,2,3,4] [0] d rfl rfl fun hC=>?_
    refine gt s 13 rfl ⟨_,rfl,rfl⟩ rfl hC (fun w hC=>y_neqB runUnderlying4 rfl rfl) fun a s=>?_
    refine gF s 14 rfl rfl hC rfl rfl h7962 fun a s=>?_
    refine y7 (by kernel_rfl) ?_
    exact ⟨Sv7830,wj s d [3,4] [2,3,4]⟩
   rintro a w ⟨Sv7959,s,d⟩
   refine tn (cd s u rfl (fun u=>?_) fun u=>?_)
   ·refine sz0 1 s rfl fun a s=>?_
    obtain rfl:=oi u
    have h7979:=hd7873 _ rfl
    subst h7979
    have h7980:=hd6825 _ rfl
    subst h7980
    exact wp_ret (A8 (j6 (j6 (A8 (A8 (j6 (j6 (A8 (j6 (rt s rfl (d.ret rfl)))))))))))
   refine wp_skip (l8 (tn (wp_region_lit (rz0 2 s rfl fun a s=>?_))))
   exact ⟨_,io u,Sv7959,wj s d [0,1] [0,1,2]⟩
  obtain ⟨rv7981,u,h7982⟩:=a0x u
  have h7982:=(hd7873 _ h7982.symm).symm
  subst h7982
  refine wp_exit (j5 (j5 (o9 (l8 (tn (wp_region_lit (rz0 2 s rfl fun a s=>?_)))))))
  exact ⟨_,io u,p7180,k7181,Sv7830,wj s d [0,1] [1,2]⟩
 obtain ⟨rv7992,u,h7993⟩:=a0x u
 have h7993:=(hd6825 _ h7993.symm).symm
 subst h7993
 refine wp_exit (j5 (j5 (o9 (tn (sr ?_)))))
 obtain ⟨rv7986,h7985,u⟩:=bt u
 refine cV s d (a4R h7985 d.bdom) (j3 call10 rfl) rfl fun a w s d=>?_
 refine rz0 1 s rfl fun a s=>?_
 obtain rfl:=oi u
 exact q1 s rfl (d.ret rfl)
end Go.Proofs.YtdcafiefjakfeaaGreat.Wk

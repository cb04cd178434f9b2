/- The walks of RevisionExact, part 1: each Go function computes what its plain program computes. Printed by a program of ours. -/
import Derived.Test.YteanekphncdhiaaGreatProg
import Derived.Test.YteanekphncdhiaaGreatDat
import Derived.Test.YteanekphncdhiaaGreatSh
import Derived.Test.YteanekphncdhiaaGreatLa1
import Derived.Test.YteanekphncdhiaaGreatLa2
import Derived.Test.YteanekphncdhiaaGreatLibCh
import Derived.KernelRfl
import Derived.Test.YteanekphncdhiaaGreatLb1
import Derived.Shelf.SlLaysF0
namespace Go.Proofs.YteanekphncdhiaaGreat.Wk
open Go Go.RowKit Go.Proofs Go.Proofs.YteanekphncdhiaaGreat.Sh Go.Proofs.Tryz
set_option linter.unusedVariables false
set_option linter.unusedSimpArgs false
set_option maxHeartbeats 4000000
set_option maxRecDepth 100000
set_option linter.defProp false
theorem y {α:Sort _} {a:α}:a=a:=rfl
def j0:=@Bool.eq_false_or_eq_true
theorem j8:True:=trivial
def j9:=@wp_region_lit
def l3:=@wp_seq
def l4:=@wpList_nil
def m5:=@runUnderlying27
def m6:=@wp_block
def m7:=@runUnderlying9
def m8:=@sizeOf3
def o0:=@runUnderlying50
def o3:=@sizeOf73
def o4:=@runUnderlying71
def q6:=@runUnderlying3
def s6:=@sizeOf32
def s8:=@isAgg3
def s9:=@sizeOf29
def t6:=@sizeOf41
def t7:=@wp_ret
def t8:=@runUnderlying52
def u0:=@wp_exit
def u4:=@runUnderlying136
def u5:=@sizeOf52
def u9:=@runUnderlying73
def v8:=@runUnderlying60
def y6:=@runUnderlying138
def A0:=@sizeOf43
def B0:=@isAgg9
def B7:=@runUnderlying41
def B8:=@runUnderlying32
def B9:=@isAgg32
def C0:=@sizeOf138
def C1:=@sizeOf65
def C2:=@runUnderlying56
def C3:=@runUnderlying48
def C4:=@runUnderlying37
def C5:=@runUnderlying22
def C6:=@runUnderlying63
def D1:=@wp_skip
def D2:=@sizeOf71
def D3:=@runUnderlying29
def D4:=@isAgg29
def E1:=@runUnderlying87
def E2:=@sizeOf136
def E3:=@isAgg41
def E4:=@sizeOf27
def E6:=@sizeOf22
def E7:=@runUnderlying65
def F0:=@isAgg71
def F1:=@isAgg43
def F2:=@isAgg73
def G0:=@sizeOf39
def G1:=@sizeOf34
def G2:=@sizeOf56
def G3:=@runUnderlying34
def G4:=@runUnderlying36
def H0:=@runUnderlying43
def H1:=@isAgg138
def H2:=@sizeOf9
def H3:=@isAgg52
def H4:=@isAgg65
def I0:=@runUnderlying124
def I2:=@isAgg27
def I3:=@runUnderlying151
def J0:=@runUnderlying171
def J1:=@runUnderlying39
def K0:=@runUnderlying88
def K1:=@sizeOf36
def K2:=@sizeOf50
def L2:=@sizeOf63
def L3:=@sizeOf37
def L4:=@runUnderlying94
def L5:=@isAgg34
def M1:=@isAgg50
def M2:=@runUnderlying157
def N2:=@isAgg22
def N3:=@isAgg136
def N4:=@sizeOf87
def N5:=@runUnderlying84
def N6:=@runUnderlying86
def O2:=@isAgg39
def P1:=@isAgg63
theorem a6U:ElT Tryz.prog 22 3 1 8 (.int .i64 0):=⟨Tryz.underlying22,⟨Tryz.t3,a2F Tryz.type3,rfl,rfl,rfl⟩,rfl,by decide⟩
theorem a8i:ElT Tryz.prog 27 73 5 88 (.agg #[.string ByteArray.empty,.string ByteArray.empty,.string ByteArray.empty,.string ByteArray.empty,.slice none ([]:List Epoch).length 0]):=⟨Tryz.underlying27,⟨Tryz.t73,a2F Tryz.type73,rfl,rfl,rfl⟩,rfl,by decide⟩
theorem El37:ElT Tryz.prog 37 138 10 96 (.agg #[.int .i64 0,.int .i64 0,.int .i64 0,.int .i64 0,.int .i64 0,.int .i64 0,.int .i64 0,.slice none ([]:List Int).length 0,.int .i64 0,.int .i64 0]):=⟨Tryz.underlying37,⟨Tryz.t138,a2F Tryz.type138,rfl,rfl,rfl⟩,rfl,by decide⟩
theorem El48:ElT Tryz.prog 48 56 5 88 (.agg #[.string ByteArray.empty,.string ByteArray.empty,.string ByteArray.empty,.string ByteArray.empty,.slice none ([]:List Span).length 0]):=⟨Tryz.underlying48,⟨Tryz.t56,a2F Tryz.type56,rfl,rfl,rfl⟩,rfl,by decide⟩
theorem a3z:ElT Tryz.prog 50 52 2 16 (.agg #[.int .i64 0,.int .i64 0]):=⟨Tryz.underlying50,⟨Tryz.t52,a2F Tryz.type52,rfl,rfl,rfl⟩,rfl,by decide⟩
theorem b1X:ElT Tryz.prog 60 32 4 64 (.agg #[.string ByteArray.empty,.string ByteArray.empty,.string ByteArray.empty,.string ByteArray.empty]):=⟨Tryz.underlying60,⟨Tryz.t32,a2F Tryz.type32,rfl,rfl,rfl⟩,rfl,by decide⟩
theorem a5R:ElT Tryz.prog 63 43 14 160 (.agg #[.int .i64 0,.string ByteArray.empty,.string ByteArray.empty,.string ByteArray.empty,.string ByteArray.empty,.int .i64 0,.int .i64 0,.int .i64 0,.int .i64 0,.int .i64 0,.int .i64 0,.int .i64 0,.int .i64 0,.slice none ([]:List Stage).length 0]):=⟨Tryz.underlying63,⟨Tryz.t43,a2F Tryz.type43,rfl,rfl,rfl⟩,rfl,by decide⟩
theorem a7k:ElT Tryz.prog 71 41 8 80 (.agg #[.int .i64 0,.int .i64 0,.int .i64 0,.int .i64 0,.int .i64 0,.int .i64 0,.int .i64 0,.slice none ([]:List Stage).length 0]):=⟨Tryz.underlying71,⟨Tryz.t41,a2F Tryz.type41,rfl,rfl,rfl⟩,rfl,by decide⟩
theorem El84:ElT Tryz.prog 84 29 1 24 (.agg #[.slice none ([]:List Channel).length 0]):=⟨Tryz.underlying84,⟨Tryz.t29,a2F Tryz.type29,rfl,rfl,rfl⟩,rfl,by decide⟩
theorem El86:ElT Tryz.prog 86 65 2 48 (.agg #[.slice none ([]:List Channel).length 0,.slice none ([]:List Change).length 0]):=⟨Tryz.underlying86,⟨Tryz.t65,a2F Tryz.type65,rfl,rfl,rfl⟩,rfl,by decide⟩
theorem El88:ElT Tryz.prog 88 87 2 16 (.agg #[.int .i64 0,.int .i64 0]):=⟨Tryz.underlying88,⟨Tryz.t87,a2F Tryz.type87,rfl,rfl,rfl⟩,rfl,by decide⟩
theorem El124:ElT Tryz.prog 124 9 1 16 (.string ByteArray.empty):=⟨Tryz.underlying124,⟨Tryz.t9,a2F Tryz.type9,rfl,rfl,rfl⟩,rfl,by decide⟩
theorem El151:ElT Tryz.prog 151 27 1 24 (.slice none ([]:List Channel).length 0):=⟨Tryz.underlying151,⟨Tryz.t27,a2F Tryz.type27,rfl,rfl,rfl⟩,rfl,by decide⟩
theorem El171:ElT Tryz.prog 171 71 1 24 (.slice none ([]:List Epoch).length 0):=⟨Tryz.underlying171,⟨Tryz.t71,a2F Tryz.type71,rfl,rfl,rfl⟩,rfl,by decide⟩
theorem a5Q:a8h Tryz.prog 29 ((#[(0,1)]:Array (Nat × Nat))[·]?) [.slice none ([]:List Channel).length 0]:=a6a Tryz.zeroValue29 rfl D3 (fun w=>by simp [E4])
theorem Bld32:a8h Tryz.prog 32 ((#[(0,1),(1,1),(2,1),(3,1)]:Array (Nat × Nat))[·]?) [.string ByteArray.empty,.string ByteArray.empty,.string ByteArray.empty,.string ByteArray.empty]:=a6a Tryz.zeroValue32 rfl B8 (fun w=>by simp [H2])
theorem Bld34:a8h Tryz.prog 34 ((#[(0,1),(1,1)]:Array (Nat × Nat))[·]?) [.int .i64 0,.int .i64 0]:=a6a Tryz.zeroValue34 rfl G3 (fun w=>by simp [m8])
theorem Bld36:a8h Tryz.prog 36 ((#[(0,1),(1,1),(2,1)]:Array (Nat × Nat))[·]?) [.int .i64 0,.int .i64 0,.int .i64 0]:=a6a Tryz.zeroValue36 rfl G4 (fun w=>by simp [m8])
theorem Bld41:a8h Tryz.prog 41 ((#[(0,1),(1,1),(2,2),(4,3),(7,1)]:Array (Nat × Nat))[·]?) [.int .i64 0,.int .i64 0,.int .i64 0,.int .i64 0,.int .i64 0,.int .i64 0,.int .i64 0,.slice none ([]:List Stage).length 0]:=a6a Tryz.zeroValue41 rfl B7 (fun w=>by simp [m8,G1,K1,G0])
theorem a8r:a8h Tryz.prog 43 ((#[(0,1),(1,4),(5,1),(6,8)]:Array (Nat × Nat))[·]?) [.int .i64 0,.string ByteArray.empty,.string ByteArray.empty,.string ByteArray.empty,.string ByteArray.empty,.int .i64 0,.int .i64 0,.int .i64 0,.int .i64 0,.int .i64 0,.int .i64 0,.int .i64 0,.int .i64 0,.slice none ([]:List Stage).length 0]:=a6a Tryz.zeroValue43 rfl H0 (fun w=>by simp [m8,s6,t6])
theorem a7i:a8h Tryz.prog 52 ((#[(0,1),(1,1)]:Array (Nat × Nat))[·]?) [.int .i64 0,.int .i64 0]:=a6a Tryz.zeroValue52 rfl t8 (fun w=>by simp [m8])
theorem Bld56:a8h Tryz.prog 56 ((#[(0,4),(4,1)]:Array (Nat × Nat))[·]?) [.string ByteArray.empty,.string ByteArray.empty,.string ByteArray.empty,.string ByteArray.empty,.slice none ([]:List Span).length 0]:=a6a Tryz.zeroValue56 rfl C2 (fun w=>by simp [s6,K2])
theorem a6n:a8h Tryz.prog 65 ((#[(0,1),(1,1)]:Array (Nat × Nat))[·]?) [.slice none ([]:List Channel).length 0,.slice none ([]:List Change).length 0]:=a6a Tryz.zeroValue65 rfl E7 (fun w=>by simp [s9,L2])
theorem b1T:a8h Tryz.prog 73 ((#[(0,4),(4,1)]:Array (Nat × Nat))[·]?) [.string ByteArray.empty,.string ByteArray.empty,.string ByteArray.empty,.string ByteArray.empty,.slice none ([]:List Epoch).length 0]:=a6a Tryz.zeroValue73 rfl u9 (fun w=>by simp [s6,D2])
theorem Bld87:a8h Tryz.prog 87 (fun i=>some (i * 1,1)) [.int .i64 0,.int .i64 0]:=b3B Tryz.zeroValue87 rfl E1 m8
theorem Bld94:a8h Tryz.prog 94 ((#[(0,1),(1,1)]:Array (Nat × Nat))[·]?) [.slice none ([]:List Int).length 0,.int .i64 0]:=a6a Tryz.zeroValue94 rfl L4 (fun w=>by simp [m8,E6])
theorem a6T:a8h Tryz.prog 136 (fun i=>some (i * 1,1)) [.int .i64 0,.int .i64 0,.int .i64 0]:=b3B Tryz.zeroValue136 rfl u4 m8
theorem b5j:a8h Tryz.prog 138 ((#[(0,1),(1,3),(4,3),(7,1),(8,1),(9,1)]:Array (Nat × Nat))[·]?) [.int .i64 0,.int .i64 0,.int .i64 0,.int .i64 0,.int .i64 0,.int .i64 0,.int .i64 0,.slice none ([]:List Int).length 0,.int .i64 0,.int .i64 0]:=a6a Tryz.zeroValue138 rfl y6 (fun w=>by simp [m8,E6,E2])
theorem Bld157:a8h Tryz.prog 157 (fun i=>some (i * 1,1)) [.int .i64 0,.int .i64 0,.int .i64 0,.int .i64 0]:=b3B Tryz.zeroValue157 rfl M2 m8
instance:TbOk Tryz.prog where
  tb:=⟨[(29,[(0,1,false)]),(32,[(0,1,false),(1,1,false),(2,1,false),(3,1,false)]),(34,[(0,1,false),(1,1,false)]),(36,[(0,1,false),(1,1,false),(2,1,false)]),(39,[(0,1,false)]),(41,[(0,1,false),(1,1,false),(2,2,true),(4,3,true),(7,1,true)]),(43,[(0,1,false),(1,4,true),(5,1,false),(6,8,true)]),(52,[(0,1,false),(1,1,false)]),(56,[(0,4,true),(4,1,false)]),(65,[(0,1,true),(1,1,false)]),(73,[(0,4,true),(4,1,false)]),(94,[(0,1,false),(1,1,false)]),(138,[(0,1,false),(1,3,true),(4,3,true),(7,1,false),(8,1,false),(9,1,false)])],[(3,none),(9,none),(22,none),(27,none),(29,some 1),(32,some 4),(34,some 2),(36,some 3),(37,none),(39,some 1),(41,some 8),(43,some 14),(50,none),(52,some 2),(63,none),(65,some 2),(71,none),(73,some 5),(136,some 3),(138,some 10)],[(9,false),(22,true),(27,true),(37,true),(48,true),(50,true),(60,true),(63,true),(71,true),(84,true),(86,true),(88,true),(151,true),(171,true)]⟩
  st:=⟨⟨_,D3,⟨rfl,E4,I2⟩,j8⟩,⟨_,B8,⟨rfl,H2,B0⟩,⟨rfl,H2,B0⟩,⟨rfl,H2,B0⟩,⟨rfl,H2,B0⟩,j8⟩,⟨_,G3,⟨rfl,m8,s8⟩,⟨rfl,m8,s8⟩,j8⟩,⟨_,G4,⟨rfl,m8,s8⟩,⟨rfl,m8,s8⟩,⟨rfl,m8,s8⟩,j8⟩,⟨_,J1,⟨rfl,L3,Tryz.isAgg37⟩,j8⟩,⟨_,B7,⟨rfl,m8,s8⟩,⟨rfl,m8,s8⟩,⟨rfl,G1,L5⟩,⟨rfl,K1,Tryz.isAgg36⟩,⟨rfl,G0,O2⟩,j8⟩,⟨_,H0,⟨rfl,m8,s8⟩,⟨rfl,s6,B9⟩,⟨rfl,m8,s8⟩,⟨rfl,t6,E3⟩,j8⟩,⟨_,t8,⟨rfl,m8,s8⟩,⟨rfl,m8,s8⟩,j8⟩,⟨_,C2,⟨rfl,s6,B9⟩,⟨rfl,K2,M1⟩,j8⟩,⟨_,E7,⟨rfl,s9,D4⟩,⟨rfl,L2,P1⟩,j8⟩,⟨_,u9,⟨rfl,s6,B9⟩,⟨rfl,D2,F0⟩,j8⟩,⟨_,L4,⟨rfl,E6,N2⟩,⟨rfl,m8,s8⟩,j8⟩,⟨_,y6,⟨rfl,m8,s8⟩,⟨rfl,E2,N3⟩,⟨rfl,E2,N3⟩,⟨rfl,E6,N2⟩,⟨rfl,m8,s8⟩,⟨rfl,m8,s8⟩,j8⟩,j8⟩
  ld:=⟨s8,B0,N2,I2,⟨D4,s9⟩,⟨B9,s6⟩,⟨L5,G1⟩,⟨Tryz.isAgg36,K1⟩,Tryz.isAgg37,⟨O2,G0⟩,⟨E3,t6⟩,⟨F1,A0⟩,M1,⟨H3,u5⟩,P1,⟨H4,C1⟩,F0,⟨F2,o3⟩,⟨N3,E2⟩,⟨H1,C0⟩,j8⟩
  ln:=⟨m7,⟨_,C5⟩,⟨_,m5⟩,⟨_,C4⟩,⟨_,C3⟩,⟨_,o0⟩,⟨_,v8⟩,⟨_,C6⟩,⟨_,o4⟩,⟨_,N5⟩,⟨_,N6⟩,⟨_,K0⟩,⟨_,I3⟩,⟨_,J0⟩,j8⟩
abbrev C32 (d:SourceID):List Value:=[.string d.Network,.string d.Station,.string d.Location,.string d.Channel]
abbrev V32 (d:SourceID):Value:=.agg (C32 d).toArray
abbrev C34 (d:Rate):List Value:=[.int .i64 d.Num,.int .i64 d.Den]
abbrev V34 (d:Rate):Value:=.agg (C34 d).toArray
abbrev C36 (d:Position):List Value:=[.int .i64 d.X,.int .i64 d.Y,.int .i64 d.Z]
abbrev V36 (d:Position):Value:=.agg (C36 d).toArray
abbrev C41 (d:Epoch) (p7:Option Addr) (k7:Nat):List Value:=[.int .i64 d.From,.int .i64 d.To,.int .i64 d.Rate.Num,.int .i64 d.Rate.Den,.int .i64 d.Position.X,.int .i64 d.Position.Y,.int .i64 d.Position.Z,.slice p7 d.Response.Stages.length k7]
abbrev V41 (d:Epoch) (p7:Option Addr) (k7:Nat):Value:=.agg (C41 d p7 k7).toArray
abbrev C43 (d:Change) (b:Option Addr) (a:Nat):List Value:=[.int .i64 d.Kind,.string d.Source.Network,.string d.Source.Station,.string d.Source.Location,.string d.Source.Channel,.int .i64 d.From,.int .i64 d.Epoch.From,.int .i64 d.Epoch.To,.int .i64 d.Epoch.Rate.Num,.int .i64 d.Epoch.Rate.Den,.int .i64 d.Epoch.Position.X,.int .i64 d.Epoch.Position.Y,.int .i64 d.Epoch.Position.Z,.slice b d.Epoch.Response.Stages.length a]
abbrev V43 (d:Change) (b:Option Addr) (a:Nat):Value:=.agg (C43 d b a).toArray
abbrev C52 (d:Span):List Value:=[.int .i64 d.From,.int .i64 d.To]
abbrev V52 (d:Span):Value:=.agg (C52 d).toArray
abbrev C56 (d:Affected) (p4:Option Addr) (k4:Nat):List Value:=[.string d.Source.Network,.string d.Source.Station,.string d.Source.Location,.string d.Source.Channel,.slice p4 d.Spans.length k4]
abbrev V56 (d:Affected) (p4:Option Addr) (k4:Nat):Value:=.agg (C56 d p4 k4).toArray
abbrev C65 (d:History) (p0:Option Addr) (k0:Nat) (p1:Option Addr) (k1:Nat):List Value:=[.slice p0 d.Base.Channels.length k0,.slice p1 d.Changes.length k1]
abbrev V65 (d:History) (p0:Option Addr) (k0:Nat) (p1:Option Addr) (k1:Nat):Value:=.agg (C65 d p0 k0 p1 k1).toArray
abbrev C73 (d:Channel) (p4:Option Addr) (k4:Nat):List Value:=[.string d.Source.Network,.string d.Source.Station,.string d.Source.Location,.string d.Source.Channel,.slice p4 d.Epochs.length k4]
abbrev V73 (d:Channel) (p4:Option Addr) (k4:Nat):Value:=.agg (C73 d p4 k4).toArray
abbrev C94 (d:Dice) (p0:Option Addr) (k0:Nat):List Value:=[.slice p0 d.L.length k0,.int .i64 d.At]
abbrev V94 (d:Dice) (p0:Option Addr) (k0:Nat):Value:=.agg (C94 d p0 k0).toArray
abbrev a2k (d:Stage) (p7:Option Addr) (k7:Nat):List Value:=[.int .i64 d.Kind,.int .i64 d.Num.e0,.int .i64 d.Num.e1,.int .i64 d.Num.e2,.int .i64 d.Den.e0,.int .i64 d.Den.e1,.int .i64 d.Den.e2,.slice p7 d.Taps.length k7,.int .i64 d.Factor,.int .i64 d.Shift]
abbrev V138 (d:Stage) (p7:Option Addr) (k7:Nat):Value:=.agg (a2k d p7 k7).toArray
abbrev Z0:List Value:=[.int .i64 0,.int .i64 0,.int .i64 0,.int .i64 0,.int .i64 0,.int .i64 0,.int .i64 0,.slice none ([]:List Int).length 0,.int .i64 0,.int .i64 0]
abbrev Z1:List Value:=[.int .i64 0,.int .i64 0,.int .i64 0,.int .i64 0,.int .i64 0,.int .i64 0,.int .i64 0,.slice none ([]:List Stage).length 0]
abbrev Z2:List Value:=[.string ByteArray.empty,.string ByteArray.empty,.string ByteArray.empty,.string ByteArray.empty,.slice none ([]:List Epoch).length 0]
abbrev Z3:List Value:=[.string ByteArray.empty,.string ByteArray.empty,.string ByteArray.empty,.string ByteArray.empty]
abbrev Z4:List Value:=[.string (⟨#[65]⟩:ByteArray),.string (⟨#[66]⟩:ByteArray),.string ByteArray.empty,.string (⟨#[72,72,90]⟩:ByteArray)]
abbrev Z5:List Value:=[.int .i64 10,.int .i64 20,.int .i64 100,.int .i64 1,.int .i64 0,.int .i64 0,.int .i64 0,.slice none ([]:List Stage).length 0]
abbrev Z6:List Value:=[.int .i64 10,.int .i64 25,.int .i64 100,.int .i64 1,.int .i64 0,.int .i64 0,.int .i64 0,.slice none ([]:List Stage).length 0]
abbrev Z7:List Value:=[.string (⟨#[71,82]⟩:ByteArray),.string (⟨#[88]⟩:ByteArray),.string (⟨#[55,65]⟩:ByteArray)]
abbrev Z8:List Value:=[.string (⟨#[70,85,82]⟩:ByteArray),.string (⟨#[65]⟩:ByteArray),.string (⟨#[65,66,67,68,69]⟩:ByteArray),.string (⟨#[70,85]⟩:ByteArray)]
abbrev Z9:List Value:=[.string (⟨#[]⟩:ByteArray),.string (⟨#[48,48]⟩:ByteArray),.string (⟨#[49,48]⟩:ByteArray)]
abbrev Z10:List Value:=[.string (⟨#[72,72,90]⟩:ByteArray),.string (⟨#[72,72,78]⟩:ByteArray),.string (⟨#[66,72,90]⟩:ByteArray)]
abbrev Z11:List Value:=[.int .i64 1,.int .i64 3,.int .i64 20,.int .i64 100,.int .i64 40,.int .i64 4096,.int .i64 7]
abbrev Z12:List Value:=[.int .i64 1,.int .i64 1,.int .i64 1,.int .i64 3,.int .i64 7,.int .i64 4096]
abbrev Z13:List Value:=[.int .i64 1,.int .i64 2,.int .i64 (-3),.int .i64 1048576]
abbrev Z14:List Value:=[.int .i64 0,.int .i64 1,.int .i64 1048576]
abbrev Z15:List Value:=[.int .i64 1,.int .i64 1,.int .i64 2,.int .i64 5]
abbrev Z16:List Value:=[.int .i64 0,.int .i64 500,.int .i64 (-1048576),.int .i64 1048576]
abbrev Z17:List Value:=[.int .i64 0,.int .i64 (-200),.int .i64 (-16384)]
abbrev Z18:List Value:=[.int .i64 0,.string ByteArray.empty,.string ByteArray.empty,.string ByteArray.empty,.string ByteArray.empty,.int .i64 0,.int .i64 0,.int .i64 0,.int .i64 0,.int .i64 0,.int .i64 0,.int .i64 0,.int .i64 0,.slice none ([]:List Stage).length 0]
abbrev Z19:List Value:=[.int .i64 0,.int .i64 0,.int .i64 1,.int .i64 2]
abbrev Z20:List Value:=[.int .i64 (-1),.int .i64 500,.int .i64 3000]
abbrev Z21:List Value:=[.slice none ([]:List Channel).length 0,.slice none ([]:List Change).length 0]
abbrev o5 (w0:World) (X:List Nat) (r:Bool):Rd:=fun S w v=>v=.bool r
theorem b2S {w0 S0 p2 k3 l1 r} (u:a7L l1=some r) (hS:Dm S0 w0) (h4:(Sq p2 k3 l1).p S0 w0):Ck Tryz.prog 9 #[sl p2 k3 l1] w0 S0 [] o5 r:=by
 refine en 6 func9 y hS y y y fun a s d=>?_
 have d:=d.addE h4
 refine sz0 1 s y fun a s=>sz0 4 s y fun a s=>?_
 obtain rfl:=oi u
 exact q1 s y (d.ret y)
theorem b1M {w0 S0 c1 r} (u:a6j c1=some r) (hS:Dm S0 w0):Ck Tryz.prog 141 #[.int .u8 c1] w0 S0 [] o5 r:=by
 refine en 17 func141 y hS y y y fun a s d=>sz0 1 s y fun a s=>sn0 1 s y fun a s=>sv s (a9C (y) y) y fun a s=>mv s y y fun a s=>y7 3 (fun a w1=>w0=w1∧Sl 17 [(0,.int .u8 c1),(8,.bool ((decide (65≤c1)) && (decide (c1≤90))))] a) ?_ ?_
 ·rcases j0 (decide (65≤c1)) with h2 | h2
  ·have s:=s.bT 5 y h2
   refine D6 s (a0u y) ⟨_,y,y⟩ y y fun a s=>D6 s (b2N (y) y) ⟨_,y,y⟩ y y fun a s=>rz0 1 s y fun a s=>⟨y,(s.fix 8 (.bool ((decide (65≤c1)) && (decide (c1≤90)))) y (a3J h2)).weaken _ ⟨y,y,j8⟩⟩
  have s:=s.bF 5 y h2
  refine rz0 3 s y fun a s=>⟨y,(s.fix 8 (.bool ((decide (65≤c1)) && (decide (c1≤90)))) y (a3I h2)).weaken _ ⟨y,y,j8⟩⟩
 rintro a w1 ⟨c,s⟩
 subst c
 refine mv s y y fun a s=>y7 7 (fun a w1=>w0=w1∧Sl 17 [(16,.bool (((decide (65≤c1)) && (decide (c1≤90))) || ((decide (48≤c1)) && (decide (c1≤57)))))] a) ?_ ?_
 ·rcases j0 ((decide (65≤c1)) && (decide (c1≤90))) with h5 | h5
  ·have s:=s.bT 9 y h5
   refine rz0 7 s y fun a s=>⟨y,(s.fix 16 (.bool (((decide (65≤c1)) && (decide (c1≤90))) || ((decide (48≤c1)) && (decide (c1≤57))))) y (or_t h5)).weaken _ ⟨y,j8⟩⟩
  have s:=s.bF 9 y h5
  refine D6 s (a0u y) ⟨_,y,y⟩ y y fun a s=>D6 s (a9C (y) y) ⟨_,y,y⟩ y y fun a s=>D6 s (a0u y) ⟨_,y,y⟩ y y fun a s=>y7 3 (fun a w1=>w0=w1∧Sl 17 [(9,.bool false),(15,.bool ((decide (48≤c1)) && (decide (c1≤57))))] a) ?_ ?_
  ·rcases j0 (decide (48≤c1)) with h8 | h8
   ·have s:=s.bT 12 y h8
    refine D6 s (a0u y) ⟨_,y,y⟩ y y fun a s=>D6 s (b2N (y) y) ⟨_,y,y⟩ y y fun a s=>rz0 1 s y fun a s=>⟨y,(s.fix 15 (.bool ((decide (48≤c1)) && (decide (c1≤57)))) y (a3J h8)).weaken _ ⟨y,y,j8⟩⟩
   have s:=s.bF 12 y h8
   refine rz0 3 s y fun a s=>⟨y,(s.fix 15 (.bool ((decide (48≤c1)) && (decide (c1≤57)))) y (a3I h8)).weaken _ ⟨y,y,j8⟩⟩
  rintro a w1 ⟨h9,s⟩
  subst h9
  refine rz0 1 s y fun a s=>⟨y,(s.fix 16 (.bool (((decide (65≤c1)) && (decide (c1≤90))) || ((decide (48≤c1)) && (decide (c1≤57))))) y (or_f h5)).weaken _ ⟨y,j8⟩⟩
 rintro a w1 ⟨b,s⟩
 subst b
 refine rz0 1 s y fun a s=>?_
 obtain rfl:=oi u
 exact q1 s y (d.ret y)
theorem a5a {w0 S0 s1 f b r} (u:a3g s1 f b=some r) (hS:Dm S0 w0):Ck Tryz.prog 121 #[.string s1,iv f,iv b] w0 S0 [] o5 r:=by
 refine en 29 func121 y hS y y y fun a s d=>sz0 1 s y fun a s=>l3 (sz0 3 s y fun a s=>?_)
 refine m6 (u7 (fun h a w=>∃ c,Sl 29 [(0,.string s1),(1,iv f),(2,iv b),(9,iv (s1.size:Int)),(10,iv h)] a∧Wd ⟨w0,S0,[]⟩ c [] [] w) 0 u ⟨S0,wj s d [] []⟩ ?_)
 repeat clear u
 rintro h a w o ⟨c,s,d⟩ u g
 refine sz0 1 s y fun a s=>l3 (cd s u y (fun u=>?_) fun u=>?_)
 ·refine sk (l3 (m6 (sz0 2 s y fun a s=>?_)))
  refine sn0 2 s y fun a s=>?_
  obtain ⟨n,i,u⟩:=bt u
  refine sv s (a7w m7 y y i) y fun a s=>?_
  obtain ⟨l,j,u⟩:=bt u
  refine cV s d (b1M j d.bdom) (j3 call141 y) y fun a w s d=>rz0 1 s y fun a s=>cd s u y (fun u=>?_) fun u=>?_
  ·refine sz0 1 s y fun a s=>?_
   obtain rfl:=oi u
   have k:=g _ y
   subst k
   exact t7 (o8 (j4 (j4 (o8 (j4 (rt s y (d.ret y)))))))
  refine D1 (l9 (tn (j9 (rz0 2 s y fun a s=>?_))))
  exact ⟨_,io u,c,wj s d [] []⟩
 obtain ⟨m,u,e⟩:=X5 u
 have e:=(g _ e.symm).symm
 subst e
 refine u0 (j5 (j5 (o9 (tn (sn0 5 s y fun a s=>?_)))))
 refine rA 5 23 [] s d y y y y y fun a s=>rz0 1 s y fun a s=>?_
 obtain rfl:=oi u
 exact q1 s y (d.ret y)
theorem a2t {w0 S0 s1 r} (u:a4X s1=some r) (hS:Dm S0 w0):Ck Tryz.prog 85 #[V32 s1] w0 S0 [] o5 r:=by
 refine en 27 func85 y hS y y y fun a s d=>sr (wb (C32 s1) s d y fun b2 a w s d=>?_)
 refine rz0 1 s y fun a s=>sn 2 [0] s d y y fun a s=>?_
 obtain ⟨z,h3,u⟩:=bt u
 refine cV s d (a5a h3 d.bdom) (j3 call121 y) y fun a w s d=>mv s y y fun a s=>?_
 obtain ⟨l,i,u⟩:=bt u
 refine y7 4 (fun a w=>∃ b,Sl 27 [(1,pt b2),(10,.bool l)] a∧Wd ⟨w0,S0,[]⟩ b [.box b2 (C32 s1) 32] [] w) ?_ ?_
 ·rcases j0 z with e | e
  ·have s:=s.bT 6 y e
   have u:=D7 i e
   refine rn 2 [0] s d y y fun a s=>?_
   obtain ⟨D,o,u⟩:=bt u
   refine x9 s (a5a o d.bdom) (j3 call121 y) ⟨_,y,y⟩ y y ?_
   rintro G A w a p rfl s
   have d:=d.callB p
   refine sv s (I6 y y) y fun a s=>l4 ?_
   obtain rfl:=oi u
   exact tn ⟨S0,wj s d [0] []⟩
  have s:=s.bF 6 y e
  have u:=E8 i e
  refine rn0 4 s y fun a s=>l4 ?_
  obtain rfl:=oi u
  exact tn ⟨S0,wj s d [0] []⟩
 rintro a w ⟨b,s,d⟩
 refine mv s y y fun a s=>?_
 obtain ⟨m,j,u⟩:=bt u
 refine y7 4 (fun a w=>∃ c,Sl 27 [(1,pt b2),(15,.bool m)] a∧Wd ⟨w0,S0,[]⟩ c [.box b2 (C32 s1) 32] [] w) ?_ ?_
 ·rcases j0 l with f | f
  ·have s:=s.bT 11 y f
   have u:=D7 j f
   refine rn 2 [0] s d y y fun a s=>?_
   obtain ⟨E,q,u⟩:=bt u
   refine x9 s (a5a q d.bdom) (j3 call121 y) ⟨_,y,y⟩ y y ?_
   rintro H B w a t rfl s
   have d:=d.callB t
   refine sv s (I6 y y) y fun a s=>l4 ?_
   obtain rfl:=oi u
   exact tn ⟨b,wj s d [0] []⟩
  have s:=s.bF 11 y f
  have u:=E8 j f
  refine rn0 4 s y fun a s=>l4 ?_
  obtain rfl:=oi u
  exact tn ⟨b,wj s d [0] []⟩
 rintro a w ⟨c,s,d⟩
 refine mv s y y fun a s=>rA 5 16 [0] s d y y y y y fun a s=>mv s y y fun a s=>?_
 obtain ⟨n,k,u⟩:=bt u
 refine y7 4 (fun a w=>∃ h,Sl 27 [(26,.bool n)] a∧Wd ⟨w0,S0,[]⟩ h [] [] w) ?_ ?_
 ·rcases j0 (m && ((s1.Location.size:Int) != 1)) with g | g
  ·have s:=s.bT 22 y g
   have u:=D7 k g
   refine rn 2 [0] s d y y fun a s=>?_
   obtain ⟨F,v,u⟩:=bt u
   refine x9 s (a5a v d.bdom) (j3 call121 y) ⟨_,y,y⟩ y y ?_
   rintro I C w a x rfl s
   have d:=d.callB x
   refine sv s (I6 y y) y fun a s=>l4 ?_
   obtain rfl:=oi u
   exact tn ⟨c,wj s d [] []⟩
  have s:=s.bF 22 y g
  have u:=E8 k g
  refine rn0 4 s y fun a s=>l4 ?_
  obtain rfl:=oi u
  exact tn ⟨c,wj s d [] []⟩
 rintro a w ⟨h,s,d⟩
 refine rz0 1 s y fun a s=>?_
 obtain rfl:=oi u
 exact q1 s y (d.ret y)
theorem b2k {w0 S0 n1 c b r} (u:b1Q n1 c b=some r) (hS:Dm S0 w0):Ck Tryz.prog 142 #[iv n1,iv c,iv b] w0 S0 [] o5 r:=by
 refine en 15 func142 y hS y y y fun a s d=>sz0 1 s y fun a s=>sn0 4 s y fun a s=>rA 4 10 [] s d y y y y y fun a s=>rz0 1 s y fun a s=>?_
 obtain rfl:=oi u
 exact q1 s y (d.ret y)
abbrev K7 (w0:World) (X:List Nat) (r:Int):Rd:=fun S w v=>v=iv r
theorem b4P {w0 S0 a1 b2 r} (u:b0w a1 b2=some r) (hS:Dm S0 w0):Ck Tryz.prog 143 #[iv a1,iv b2] w0 S0 [] K7 r:=by
 refine en 12 func143 y hS y y y fun a s d=>sz0 1 s y fun a s=>l3 ?_
 obtain ⟨j,h,u⟩:=bt u
 refine A7 (fun a w=>∃ f,Sl 12 [(0,iv j)] a∧Wd ⟨w0,S0,[]⟩ f [] [] w) ?_ ?_
 ·refine m6 (u7 (fun e a w=>∃ b,Sl 12 [(0,iv e.1),(1,iv e.2)] a∧Wd ⟨w0,S0,[]⟩ b [] [] w) (a1,b2) h ⟨S0,wj s d [] []⟩ ?_)
  clear h
  repeat clear u
  rintro e a w m ⟨b,s,d⟩ u i
  refine l3 (sz0 2 s y fun a s=>?_)
  refine cd s u y (fun u=>?_) fun u=>?_
  ·refine sk (m6 ?_)
   obtain ⟨g,k,u⟩:=bt u
   refine C7 (fun a w=>∃ c,Sl 12 [(0,iv e.2),(1,iv g)] a∧Wd ⟨w0,S0,[]⟩ c [] [] w) ?_ ?_
   ·refine h_c [] [] d y y (by kernel_rfl) y fun hC d=>gn 3 [0,1,2] [] s hC y y y fun a s=>gv s 3 y y hC (fun w hC=>b5R y y k) fun a s=>gn 2 [4,5] [] s hC y y y fun a s=>q9 (by kernel_rfl) ?_
    exact ⟨b,wj s d [] []⟩
   rintro a w ⟨c,s,d⟩
   exact l9 (tn ⟨_,io u,c,wj s d [] []⟩)
  refine u0 (j5 (j5 (o9 ?_)))
  obtain rfl:=oi u
  have l:=i _ y
  subst l
  exact tn ⟨b,wj s d [] []⟩
 rintro a w ⟨f,s,d⟩
 refine tn (sz0 2 s y fun a s=>?_)
 obtain rfl:=oi u
 exact q1 s y (d.ret y)
theorem b2U {w0 S0 r1 r} (u:a7O r1=some r) (hS:Dm S0 w0):Ck Tryz.prog 122 #[V34 r1] w0 S0 [] o5 r:=by
 refine en 19 func122 y hS y y y fun a s d=>sr (wb (C34 r1) s d y fun b2 a w s d=>?_)
 refine rz0 1 s y fun a s=>sn 2 [0] s d y y fun a s=>?_
 obtain ⟨o,h3,u⟩:=bt u
 refine cV s d (b2k h3 d.bdom) (j3 call142 y) y fun a w s d=>mv s y y fun a s=>?_
 obtain ⟨i,g,u⟩:=bt u
 refine y7 4 (fun a w=>∃ b,Sl 19 [(1,pt b2),(10,.bool i)] a∧Wd ⟨w0,S0,[]⟩ b [.box b2 (C34 r1) 34] [] w) ?_ ?_
 ·rcases j0 o with c | c
  ·have s:=s.bT 6 y c
   have u:=D7 g c
   refine rn 2 [0] s d y y fun a s=>?_
   obtain ⟨t,k,u⟩:=bt u
   refine x9 s (b2k k d.bdom) (j3 call142 y) ⟨_,y,y⟩ y y ?_
   rintro x p w a l rfl s
   have d:=d.callB l
   refine sv s (I6 y y) y fun a s=>l4 ?_
   obtain rfl:=oi u
   exact tn ⟨S0,wj s d [0] []⟩
  have s:=s.bF 6 y c
  have u:=E8 g c
  refine rn0 4 s y fun a s=>l4 ?_
  obtain rfl:=oi u
  exact tn ⟨S0,wj s d [0] []⟩
 rintro a w ⟨b,s,d⟩
 refine mv s y y fun a s=>?_
 obtain ⟨j,h,u⟩:=bt u
 refine y7 7 (fun a w=>∃ f,Sl 19 [(18,.bool j)] a∧Wd ⟨w0,S0,[]⟩ f [] [] w) ?_ ?_
 ·rcases j0 i with e | e
  ·have s:=s.bT 11 y e
   have u:=D7 h e
   refine rn 4 [0,0] s d y y fun a s=>?_
   obtain ⟨v,m,u⟩:=bt u
   refine x9 s (b4P m d.bdom) (j3 call143 y) ⟨_,y,y⟩ y y ?_
   rintro z q w a n rfl s
   have d:=d.callB n
   refine rn0 2 s y fun a s=>l4 ?_
   obtain rfl:=oi u
   exact tn ⟨b,wj s d [] []⟩
  have s:=s.bF 11 y e
  have u:=E8 h e
  refine rn0 7 s y fun a s=>l4 ?_
  obtain rfl:=oi u
  exact tn ⟨b,wj s d [] []⟩
 rintro a w ⟨f,s,d⟩
 refine rz0 1 s y fun a s=>?_
 obtain rfl:=oi u
 exact q1 s y (d.ret y)
theorem a2D {w0 S0 p2 k3 g6 f7 f s1} {f5:Stage→Option Bool} {r} (u:O4 s1 f5=some r) (hS:Dm S0 w0) (h4:(Sq p2 k3 s1).p S0 w0) (h9:(a6o Tryz.prog g6 f7 f f5).p S0 w0):Ck Tryz.prog 179 #[sl p2 k3 s1,.func (.func g6) f7.toArray f.toArray] w0 S0 [] K7 r:=by
 refine en 19 func179 y hS y y y fun a s d=>?_
 have d:=(d.addE h4).addE h9
 refine sz0 1 s y fun a s=>l3 (sz0 3 s y fun a s=>?_)
 refine m6 (u7 (fun m a w=>∃ b,Sl 19 [(0,sl p2 k3 s1),(1,.func (.func g6) f7.toArray f.toArray),(7,iv (s1.length:Int)),(8,iv m)] a∧Wd ⟨w0,S0,[]⟩ b [] [Sq p2 k3 s1,a6o Tryz.prog g6 f7 f f5] w) 0 u ⟨S0,wj s d [] [1,0]⟩ ?_)
 repeat clear u
 rintro m a w H ⟨b,s,d⟩ u g
 refine sz0 1 s y fun a s=>l3 (cd s u y (fun u=>?_) fun u=>?_)
 ·refine sk (l3 (m6 (sz0 2 s y fun a s=>?_)))
  refine sn0 3 s y fun a s=>?_
  obtain ⟨D,n,u⟩:=bt u
  obtain ⟨I,K,L,J,v,h,q,t,o⟩:=d.elemV 0 y n
  have k:=s
  have l:=d
  subst v
  have s:=k
  have d:=l
  obtain ⟨_,_,_,_,_,_,_,_,_,_,rfl,rfl,rfl,rfl,rfl,rfl,rfl,rfl,⟨C,n212,B,rfl,i⟩,rfl,rfl⟩:=o
  obtain rfl:=i.1
  have d:=(d.addE (e:=SlA C _ B D.Taps) i).addE t
  refine sv s (o7 C4 C0 y y h.1 h.2 q) y fun a s=>sv s (D5 (j:=0) (d.ceAt 0 y) y H1 C0 y y) y fun a s=>?_
  obtain ⟨F,x,u⟩:=bt u
  refine x9 s ((d.bE 3 y).2 a2O.rfl' d.bdom ⟨_,_,_,_,_,_,_,_,_,_,y,y,y,y,y,y,y,y,⟨_,_,_,y,d.bE 1 y⟩,y,y⟩ x) (a4A (d.bE 3 y).1 y y) j8 y y ?_
  rintro M E w a z rfl s
  have d:=d.callB z
  refine nl (cd s u y (fun u=>?_) fun u=>?_)
  ·refine sz0 2 s y fun a s=>?_
   obtain rfl:=oi u
   have A:=g _ y
   subst A
   exact t7 (o8 (j4 (j4 (o8 (j4 (rt s y (d.ret y)))))))
  refine D1 (l9 (tn (j9 (rz0 2 s y fun a s=>?_))))
  exact ⟨_,io u,b,wj s d [] [2,3]⟩
 obtain ⟨G,u,c⟩:=X5 u
 have c:=(g _ c.symm).symm
 subst c
 refine u0 (j5 (j5 (o9 (tn (sz0 1 s y fun a s=>?_)))))
 obtain rfl:=oi u
 exact q1 s y (d.ret y)
theorem a1P {w0 S0 p2 k3 g6 f7 b s1} {f5:Stage→Option Bool} {r} (u:E5 s1 f5=some r) (hS:Dm S0 w0) (h4:(Sq p2 k3 s1).p S0 w0) (h9:(a6o Tryz.prog g6 f7 b f5).p S0 w0):Ck Tryz.prog 144 #[sl p2 k3 s1,.func (.func g6) f7.toArray b.toArray] w0 S0 [] o5 r:=by
 refine en 9 func144 y hS y y y fun a s d=>?_
 have d:=(d.addE h4).addE h9
 refine sz0 1 s y fun a s=>sn0 2 s y fun a s=>?_
 obtain ⟨e,c,u⟩:=bt u
 refine cV s d (a2D c d.bdom (d.bE 1 y) (d.bE 0 y)) (j3 call179 y) y fun a w s d=>rz0 2 s y fun a s=>?_
 obtain rfl:=oi u
 exact q1 s y (d.ret y)
theorem a1K {w0 S0 n1 c b r} (u:a0G n1 c b=some r) (hS:Dm S0 w0):Ck Tryz.prog 180 #[iv n1,iv c,iv b] w0 S0 [] o5 r:=by
 refine en 15 func180 y hS y y y fun a s d=>sz0 1 s y fun a s=>sn0 4 s y fun a s=>rA 4 10 [] s d y y y y y fun a s=>rz0 1 s y fun a s=>?_
 obtain rfl:=oi u
 exact q1 s y (d.ret y)
theorem a6e {w0 S0 p2 k3 g6 f7 e s1} {f5:Int→Option Bool} {r} (u:Y4 s1 f5=some r) (hS:Dm S0 w0) (h4:(Sq p2 k3 s1).p S0 w0) (h9:(a6o Tryz.prog g6 f7 e f5).p S0 w0):Ck Tryz.prog 206 #[sl p2 k3 s1,.func (.func g6) f7.toArray e.toArray] w0 S0 [] K7 r:=by
 refine en 19 func206 y hS y y y fun a s d=>?_
 have d:=(d.addE h4).addE h9
 refine sz0 1 s y fun a s=>l3 (sz0 3 s y fun a s=>?_)
 refine m6 (u7 (fun k a w=>∃ b,Sl 19 [(0,sl p2 k3 s1),(1,.func (.func g6) f7.toArray e.toArray),(7,iv (s1.length:Int)),(8,iv k)] a∧Wd ⟨w0,S0,[]⟩ b [] [Sq p2 k3 s1,a6o Tryz.prog g6 f7 e f5] w) 0 u ⟨S0,wj s d [] [1,0]⟩ ?_)
 repeat clear u
 rintro k a w C ⟨b,s,d⟩ u f
 refine sz0 1 s y fun a s=>l3 (cd s u y (fun u=>?_) fun u=>?_)
 ·refine sk (l3 (m6 (sz0 2 s y fun a s=>?_)))
  refine sn0 3 s y fun a s=>?_
  obtain ⟨I,l,u⟩:=bt u
  obtain ⟨D,F,G,E,q,g,n,o,m⟩:=d.elemV 0 y l
  have h:=s
  have i:=d
  subst q
  have s:=h
  have d:=i
  obtain ⟨_,rfl,rfl⟩:=m
  have d:=d.addE o
  refine sv s (o7 C5 m8 y y g.1 g.2 n) y fun a s=>sv s (F5 (j:=0) (d.ceAt 0 y) y s8 y) y fun a s=>?_
  obtain ⟨A,t,u⟩:=bt u
  refine x9 s ((d.bE 2 y).2 a2O.rfl' d.bdom ⟨_,y,y⟩ t) (a4A (d.bE 2 y).1 y y) j8 y y ?_
  rintro H z w a v rfl s
  have d:=d.callB v
  refine nl (cd s u y (fun u=>?_) fun u=>?_)
  ·refine sz0 2 s y fun a s=>?_
   obtain rfl:=oi u
   have x:=f _ y
   subst x
   exact t7 (o8 (j4 (j4 (o8 (j4 (rt s y (d.ret y)))))))
  refine D1 (l9 (tn (j9 (rz0 2 s y fun a s=>?_))))
  exact ⟨_,io u,b,wj s d [] [1,2]⟩
 obtain ⟨B,u,c⟩:=X5 u
 have c:=(f _ c.symm).symm
 subst c
 refine u0 (j5 (j5 (o9 (tn (sz0 1 s y fun a s=>?_)))))
 obtain rfl:=oi u
 exact q1 s y (d.ret y)
theorem a5e {w0 S0 p2 k3 g6 f7 b s1} {f5:Int→Option Bool} {r} (u:U3 s1 f5=some r) (hS:Dm S0 w0) (h4:(Sq p2 k3 s1).p S0 w0) (h9:(a6o Tryz.prog g6 f7 b f5).p S0 w0):Ck Tryz.prog 194 #[sl p2 k3 s1,.func (.func g6) f7.toArray b.toArray] w0 S0 [] o5 r:=by
 refine en 9 func194 y hS y y y fun a s d=>?_
 have d:=(d.addE h4).addE h9
 refine sz0 1 s y fun a s=>sn0 2 s y fun a s=>?_
 obtain ⟨e,c,u⟩:=bt u
 refine cV s d (a6e c d.bdom (d.bE 1 y) (d.bE 0 y)) (j3 call206 y) y fun a w s d=>rz0 2 s y fun a s=>?_
 obtain rfl:=oi u
 exact q1 s y (d.ret y)
theorem a8o {w0 S0 n1 r} (u:a0N n1=some r) (hS:Dm S0 w0):Ck Tryz.prog 195 #[iv n1] w0 S0 [] o5 r:=by
 refine en 6 func195 y hS y y y fun a s d=>sz0 1 s y fun a s=>sn0 1 s y fun a s=>?_
 obtain ⟨b,h2,u⟩:=bt u
 refine cV s d (a1K h2 d.bdom) (j3 call180 y) y fun a w s d=>rz0 2 s y fun a s=>?_
 obtain rfl:=oi u
 exact q1 s y (d.ret y)
theorem a8n (S0:Nat→Prop) (w0:World):(a6o Tryz.prog 195 [] [] a0N).p S0 w0:=by
  refine ⟨call195,?_⟩
  rintro S1 w1 hk hS c0 x0 r1 ⟨_,rfl,rfl⟩ hf
  exact a8o hf hS
theorem a4R {w0 S0 p2 k3 l1 r} (u:a0l l1=some r) (hS:Dm S0 w0) (h4:(Sq p2 k3 l1).p S0 w0):Ck Tryz.prog 181 #[sl p2 k3 l1] w0 S0 [] o5 r:=by
 refine en 6 func181 y hS y y y fun a s d=>?_
 have d:=d.addE h4
 refine sz0 1 s y fun a s=>sn0 1 s y fun a s=>?_
 obtain ⟨b,h5,u⟩:=bt u
 refine cV s d (a5e h5 d.bdom (d.bE 0 y) (a8n _ _)) (j3 call194 y) y fun a w s d=>rz0 2 s y fun a s=>?_
 obtain rfl:=oi u
 exact q1 s y (d.ret y)
theorem b1J {w0 S0 p2 k3 l1 r} (u:a2a l1=some r) (hS:Dm S0 w0) (h4:(Sq p2 k3 l1).p S0 w0):Ck Tryz.prog 182 #[sl p2 k3 l1] w0 S0 [] K7 r:=by
 refine en 17 func182 y hS y y y fun a s d=>?_
 have d:=d.addE h4
 refine sz0 1 s y fun a s=>sz0 1 s y fun a s=>l3 (sz0 3 s y fun a s=>?_)
 obtain ⟨l,i,u⟩:=bt u
 refine A7 (fun a w=>∃ c,Sl 17 [(3,iv l)] a∧Wd ⟨w0,S0,[]⟩ c [] [] w) ?_ ?_
 ·refine m6 (u7 (fun e a w=>∃ b,Sl 17 [(3,iv e.1),(6,sl p2 k3 l1),(7,iv (l1.length:Int)),(8,iv e.2)] a∧Wd ⟨w0,S0,[]⟩ b [] [Sq p2 k3 l1] w) (0,0) i ⟨S0,wj s d [] [0]⟩ ?_)
  clear i
  repeat clear u
  rintro e a w z ⟨b,s,d⟩ u k
  refine sz0 1 s y fun a s=>l3 (cd s u y (fun u=>?_) fun u=>?_)
  ·refine sk (l3 (m6 (sr ?_)))
   obtain ⟨E,m,u⟩:=bt u
   obtain ⟨A,C,D,B,t,h,o,q,n⟩:=d.elemV 0 y m
   have f:=s
   have g:=d
   subst t
   have s:=f
   have d:=g
   obtain ⟨_,rfl,rfl⟩:=n
   have d:=d.addE q
   refine sv s (o7 C5 m8 y y h.1 h.2 o) y fun a s=>sv s (F5 (j:=0) (d.ceAt 0 y) y s8 y) y fun a s=>rz0 1 s y fun a s=>j9 (rn0 3 s y fun a s=>?_)
   obtain ⟨n92,v,u⟩:=bt u
   refine sv s (w9 y v) y fun a s=>l4 ?_
   refine l9 (tn (j9 (rz0 2 s y fun a s=>?_)))
   exact ⟨_,io u,b,wj s d [] [1]⟩
  refine u0 (j5 (j5 (o9 ?_)))
  obtain rfl:=oi u
  have x:=k _ y
  subst x
  exact tn ⟨b,wj s d [] []⟩
 rintro a w ⟨c,s,d⟩
 refine tn (sz0 2 s y fun a s=>?_)
 obtain rfl:=oi u
 exact q1 s y (d.ret y)
theorem a7V {w0 S0 p2 k3 s1 r} (u:R5 s1=some r) (hS:Dm S0 w0) (h4:(Sq p2 k3 s1.Taps).p S0 w0):Ck Tryz.prog 146 #[V138 s1 p2 k3] w0 S0 [] o5 r:=by
 refine en 111 func146 y hS y y y fun a s d=>?_
 have d:=d.addE h4
 refine sr (wb (a2k s1 p2 k3) s d y fun b5 a w s d=>?_)
 refine rz0 1 s y fun a s=>sn 5 [0] s d y y fun a s=>rA 4 8 [0] s d y y y y y fun a s=>mv s y y fun a s=>rA 4 13 [0] s d y y y y y fun a s=>rz0 1 s y fun a s=>l3 (sz 2 [0] s d y y fun a s=>?_)
 refine m6 (sz0 2 s y fun a s=>?_)
 refine cd s u y (fun u=>?_) fun u=>?_
 ·refine sn0 2 s y fun a s=>y7 8 (fun a w1=>w=w1∧Sl 111 [(1,pt b5),(31,.bool (((((s1.Taps.length:Int) == 0) && (s1.Factor == 0)) && (s1.Shift == 0)) && ((s1.Num.e0 == s1.Num.e0) && ((s1.Num.e1 == 0) && ((s1.Num.e2 == 0) && true)))))] a) ?_ ?_
  ·rcases j0 ((((s1.Taps.length:Int) == 0) && (s1.Factor == 0)) && (s1.Shift == 0)) with l | l
   ·have s:=s.bT 23 y l
    refine rn 3 [0] s d y y fun a s=>D6 s (M6 (q:=1) u4 m8 y y (by decide) (by decide) y) ⟨_,y,y⟩ y y fun a s=>D6 s (P6 (d.ownAt 0 y) y s8 y) ⟨_,y,y⟩ y y fun a s=>D6 s (A8 (vs:=[(0,iv s1.Num.e0)]) a6T y y) ⟨_,y,y⟩ y y fun a s=>D6 s (a0E (by kernel_rfl) y y (a2v u4 m8 (EqA.cons1 s8 y y (G9 q6) (EqA.cons1 s8 y y (G9 q6) (EqA.cons1 s8 y y (G9 q6) EqA.nil))))) ⟨_,y,y⟩ y y fun a s=>rz0 1 s y fun a s=>⟨y,(s.fix 31 (.bool (((((s1.Taps.length:Int) == 0) && (s1.Factor == 0)) && (s1.Shift == 0)) && ((s1.Num.e0 == s1.Num.e0) && ((s1.Num.e1 == 0) && ((s1.Num.e2 == 0) && true))))) y (a3J l)).weaken _ ⟨y,y,j8⟩⟩
   have s:=s.bF 23 y l
   refine rz0 8 s y fun a s=>⟨y,(s.fix 31 (.bool (((((s1.Taps.length:Int) == 0) && (s1.Factor == 0)) && (s1.Shift == 0)) && ((s1.Num.e0 == s1.Num.e0) && ((s1.Num.e1 == 0) && ((s1.Num.e2 == 0) && true))))) y (a3I l)).weaken _ ⟨y,y,j8⟩⟩
  rintro a w1 ⟨ah,s⟩
  subst ah
  refine mv s y y fun a s=>y7 8 (fun a w1=>w=w1∧Sl 111 [(1,pt b5),(40,.bool ((((((s1.Taps.length:Int) == 0) && (s1.Factor == 0)) && (s1.Shift == 0)) && ((s1.Num.e0 == s1.Num.e0) && ((s1.Num.e1 == 0) && ((s1.Num.e2 == 0) && true)))) && ((s1.Den.e0 == s1.Den.e0) && ((s1.Den.e1 == 0) && ((s1.Den.e2 == 0) && true)))))] a) ?_ ?_
  ·rcases j0 (((((s1.Taps.length:Int) == 0) && (s1.Factor == 0)) && (s1.Shift == 0)) && ((s1.Num.e0 == s1.Num.e0) && ((s1.Num.e1 == 0) && ((s1.Num.e2 == 0) && true)))) with m | m
   ·have s:=s.bT 32 y m
    refine rn 3 [0] s d y y fun a s=>D6 s (M6 (q:=4) u4 m8 y y (by decide) (by decide) y) ⟨_,y,y⟩ y y fun a s=>D6 s (P6 (d.ownAt 0 y) y s8 y) ⟨_,y,y⟩ y y fun a s=>D6 s (A8 (vs:=[(0,iv s1.Den.e0)]) a6T y y) ⟨_,y,y⟩ y y fun a s=>D6 s (a0E (by kernel_rfl) y y (a2v u4 m8 (EqA.cons1 s8 y y (G9 q6) (EqA.cons1 s8 y y (G9 q6) (EqA.cons1 s8 y y (G9 q6) EqA.nil))))) ⟨_,y,y⟩ y y fun a s=>rz0 1 s y fun a s=>⟨y,(s.fix 40 (.bool ((((((s1.Taps.length:Int) == 0) && (s1.Factor == 0)) && (s1.Shift == 0)) && ((s1.Num.e0 == s1.Num.e0) && ((s1.Num.e1 == 0) && ((s1.Num.e2 == 0) && true)))) && ((s1.Den.e0 == s1.Den.e0) && ((s1.Den.e1 == 0) && ((s1.Den.e2 == 0) && true))))) y (a3J m)).weaken _ ⟨y,y,j8⟩⟩
   have s:=s.bF 32 y m
   refine rz0 8 s y fun a s=>⟨y,(s.fix 40 (.bool ((((((s1.Taps.length:Int) == 0) && (s1.Factor == 0)) && (s1.Shift == 0)) && ((s1.Num.e0 == s1.Num.e0) && ((s1.Num.e1 == 0) && ((s1.Num.e2 == 0) && true)))) && ((s1.Den.e0 == s1.Den.e0) && ((s1.Den.e1 == 0) && ((s1.Den.e2 == 0) && true))))) y (a3I m)).weaken _ ⟨y,y,j8⟩⟩
  rintro a w1 ⟨ag,s⟩
  subst ag
  refine mv s y y fun a s=>?_
  obtain ⟨S,J,u⟩:=bt u
  refine y7 5 (fun a w=>∃ b,Sl 111 [(1,pt b5),(46,.bool S)] a∧Wd ⟨w0,S0,[]⟩ b [.box b5 (a2k s1 p2 k3) 138] [Sq p2 k3 s1.Taps] w) ?_ ?_
  ·rcases j0 ((((((s1.Taps.length:Int) == 0) && (s1.Factor == 0)) && (s1.Shift == 0)) && ((s1.Num.e0 == s1.Num.e0) && ((s1.Num.e1 == 0) && ((s1.Num.e2 == 0) && true)))) && ((s1.Den.e0 == s1.Den.e0) && ((s1.Den.e1 == 0) && ((s1.Den.e2 == 0) && true)))) with n | n
   ·have s:=s.bT 41 y n
    have u:=D7 J n
    refine D6 s (l7 (o':=1) y6 y E2 y y y) ⟨_,y,y⟩ y y fun a s=>D6 s (M6 (q:=1) u4 m8 y y (by decide) (by decide) y) ⟨_,y,y⟩ y y fun a s=>D6 s (P6 (d.ownAt 0 y) y s8 y) ⟨_,y,y⟩ y y fun a s=>?_
    obtain ⟨aJ,ac,u⟩:=bt u
    refine x9 s (a1K ac d.bdom) (j3 call180 y) ⟨_,y,y⟩ y y ?_
    rintro aS aA w a ad rfl s
    have d:=d.callB ad
    refine sv s (I6 y y) y fun a s=>l4 ?_
    obtain rfl:=oi u
    exact tn ⟨S0,wj s d [0] [0]⟩
   have s:=s.bF 41 y n
   have u:=E8 J n
   refine rn0 5 s y fun a s=>l4 ?_
   obtain rfl:=oi u
   exact tn ⟨S0,wj s d [0] [0]⟩
  rintro a w ⟨b,s,d⟩
  refine mv s y y fun a s=>?_
  obtain ⟨aa,K,u⟩:=bt u
  refine y7 5 (fun a w=>∃ G,Sl 111 [(52,.bool aa)] a∧Wd ⟨w0,S0,[]⟩ G [] [] w) ?_ ?_
  ·rcases j0 S with t | t
   ·have s:=s.bT 47 y t
    have u:=D7 K t
    refine D6 s (l7 (o':=4) y6 y E2 y y y) ⟨_,y,y⟩ y y fun a s=>D6 s (M6 (q:=4) u4 m8 y y (by decide) (by decide) y) ⟨_,y,y⟩ y y fun a s=>D6 s (P6 (d.ownAt 0 y) y s8 y) ⟨_,y,y⟩ y y fun a s=>?_
    obtain ⟨aK,ae,u⟩:=bt u
    refine x9 s (a1K ae d.bdom) (j3 call180 y) ⟨_,y,y⟩ y y ?_
    rintro aT aB w a af rfl s
    have d:=d.callB af
    refine sv s (I6 y y) y fun a s=>l4 ?_
    obtain rfl:=oi u
    exact tn ⟨b,wj s d [] []⟩
   have s:=s.bF 47 y t
   have u:=E8 K t
   refine rn0 5 s y fun a s=>l4 ?_
   obtain rfl:=oi u
   exact tn ⟨b,wj s d [] []⟩
  rintro a w ⟨G,s,d⟩
  refine rz0 1 s y fun a s=>?_
  obtain rfl:=oi u
  exact t7 (o8 (j4 (rt s y (d.ret y))))
 refine sz0 2 s y fun a s=>cd s u y (fun u=>?_) fun u=>?_
 ·refine sn0 2 s y fun a s=>?_
  obtain ⟨T,L,u⟩:=bt u
  refine y7 4 (fun a w=>∃ c,Sl 111 [(1,pt b5),(60,.bool T)] a∧Wd ⟨w0,S0,[]⟩ c [] [CeA b5 0 (a2k s1 p2 k3),Sq p2 k3 s1.Taps] w) ?_ ?_
  ·rcases j0 ((((s1.Taps.length:Int) == 0) && (s1.Factor == 0)) && (s1.Shift == 0)) with v | v
   ·have s:=s.bT 56 y v
    have u:=D7 L v
    refine D6 s (l7 (o':=1) y6 y E2 y y y) ⟨_,y,y⟩ y y fun a s=>?_
    obtain ⟨Y,d⟩:=b0P d 0 y
    have d:=d.addE (e:=SlA (α:=Int) (some ⟨b5,1,none⟩) ([s1.Num.e0,s1.Num.e1,s1.Num.e2]:List Int).length 3 ([s1.Num.e0,s1.Num.e1,s1.Num.e2]:List Int)) (b3A (o:=1) (d.envAt 0 y) y ⟨⟨_,y,y⟩,⟨⟨_,y,y⟩,⟨⟨_,y,y⟩,y⟩⟩⟩)
    refine D6 s (a8b u4 m8 y y) ⟨_,y,y⟩ y y fun a s=>?_
    obtain ⟨aL,ai,u⟩:=bt u
    refine x9 s (a4R ai d.bdom (d.bE 0 y)) (j3 call181 y) ⟨_,y,y⟩ y y ?_
    rintro aU aC w a aj rfl s
    have d:=d.callB aj
    refine sv s (I6 y y) y fun a s=>l4 ?_
    obtain rfl:=oi u
    exact tn ⟨Y,wj s d [] [1,2]⟩
   have s:=s.bF 56 y v
   have u:=E8 L v
   refine rn0 4 s y fun a s=>l4 ?_
   obtain ⟨Z,d⟩:=b0P d 0 y
   obtain rfl:=oi u
   exact tn ⟨Z,wj s d [] [0,1]⟩
  rintro a w ⟨c,s,d⟩
  refine mv s y y fun a s=>?_
  obtain ⟨k,M,u⟩:=bt u
  refine y7 4 (fun a w=>∃ H,Sl 111 [(1,pt b5),(65,.bool k)] a∧Wd ⟨w0,S0,[]⟩ H [] [CeA b5 0 (a2k s1 p2 k3),Sq p2 k3 s1.Taps] w) ?_ ?_
  ·rcases j0 T with x | x
   ·have s:=s.bT 61 y x
    have u:=D7 M x
    refine D6 s (l7 (o':=4) y6 y E2 y y y) ⟨_,y,y⟩ y y fun a s=>?_
    have d:=d.addE (e:=SlA (α:=Int) (some ⟨b5,4,none⟩) ([s1.Den.e0,s1.Den.e1,s1.Den.e2]:List Int).length 3 ([s1.Den.e0,s1.Den.e1,s1.Den.e2]:List Int)) (b3A (o:=4) (d.envAt 0 y) y ⟨⟨_,y,y⟩,⟨⟨_,y,y⟩,⟨⟨_,y,y⟩,y⟩⟩⟩)
    refine D6 s (a8b u4 m8 y y) ⟨_,y,y⟩ y y fun a s=>?_
    obtain ⟨aM,ak,u⟩:=bt u
    refine x9 s (a4R ak d.bdom (d.bE 0 y)) (j3 call181 y) ⟨_,y,y⟩ y y ?_
    rintro aV aD w a al rfl s
    have d:=d.callB al
    refine sv s (I6 y y) y fun a s=>l4 ?_
    obtain rfl:=oi u
    exact tn ⟨c,wj s d [] [1,2]⟩
   have s:=s.bF 61 y x
   have u:=E8 M x
   refine rn0 4 s y fun a s=>l4 ?_
   obtain rfl:=oi u
   exact tn ⟨c,wj s d [] [0,1]⟩
  rintro a w ⟨H,s,d⟩
  refine mv s y y fun a s=>y7 5 (fun a w1=>w=w1∧Sl 111 [(71,.bool (k && (s1.Den.e0 != 0)))] a) ?_ ?_
  ·rcases j0 k with z | z
   ·have s:=s.bT 66 y z
    refine D6 s (l7 (o':=4) y6 y E2 y y y) ⟨_,y,y⟩ y y fun a s=>D6 s (M6 (q:=4) u4 m8 y y (by decide) (by decide) y) ⟨_,y,y⟩ y y fun a s=>D6 s (F5 (j:=4) (d.ceAt 0 y) y s8 y) ⟨_,y,y⟩ y y fun a s=>rz0 2 s y fun a s=>⟨y,(s.fix 71 (.bool (k && (s1.Den.e0 != 0))) y (a3J z)).weaken _ ⟨y,j8⟩⟩
   have s:=s.bF 66 y z
   refine rz0 5 s y fun a s=>⟨y,(s.fix 71 (.bool (k && (s1.Den.e0 != 0))) y (a3I z)).weaken _ ⟨y,j8⟩⟩
  rintro a w1 ⟨am,s⟩
  subst am
  refine rz0 1 s y fun a s=>?_
  obtain rfl:=oi u
  exact t7 (o8 (j4 (rt s y (d.ret y))))
 refine sz0 2 s y fun a s=>cd s u y (fun u=>?_) fun u=>?_
 ·refine sn 2 [0] s d y y fun a s=>sv s (A8 (vs:=[]) a6T y y) y fun a s=>sv s (a0E (by kernel_rfl) y y (a2v u4 m8 (EqA.cons1 s8 y y (G9 q6) (EqA.cons1 s8 y y (G9 q6) (EqA.cons1 s8 y y (G9 q6) EqA.nil))))) y fun a s=>mv s y y fun a s=>y7 5 (fun a w1=>w=w1∧Sl 111 [(1,pt b5),(83,.bool (((s1.Num.e0 == 0) && ((s1.Num.e1 == 0) && ((s1.Num.e2 == 0) && true))) && ((s1.Den.e0 == 0) && ((s1.Den.e1 == 0) && ((s1.Den.e2 == 0) && true)))))] a) ?_ ?_
  ·rcases j0 ((s1.Num.e0 == 0) && ((s1.Num.e1 == 0) && ((s1.Num.e2 == 0) && true))) with A | A
   ·have s:=s.bT 78 y A
    refine rn 2 [0] s d y y fun a s=>D6 s (A8 (vs:=[]) a6T y y) ⟨_,y,y⟩ y y fun a s=>D6 s (a0E (by kernel_rfl) y y (a2v u4 m8 (EqA.cons1 s8 y y (G9 q6) (EqA.cons1 s8 y y (G9 q6) (EqA.cons1 s8 y y (G9 q6) EqA.nil))))) ⟨_,y,y⟩ y y fun a s=>rz0 1 s y fun a s=>⟨y,(s.fix 83 (.bool (((s1.Num.e0 == 0) && ((s1.Num.e1 == 0) && ((s1.Num.e2 == 0) && true))) && ((s1.Den.e0 == 0) && ((s1.Den.e1 == 0) && ((s1.Den.e2 == 0) && true))))) y (a3J A)).weaken _ ⟨y,y,j8⟩⟩
   have s:=s.bF 78 y A
   refine rz0 5 s y fun a s=>⟨y,(s.fix 83 (.bool (((s1.Num.e0 == 0) && ((s1.Num.e1 == 0) && ((s1.Num.e2 == 0) && true))) && ((s1.Den.e0 == 0) && ((s1.Den.e1 == 0) && ((s1.Den.e2 == 0) && true))))) y (a3I A)).weaken _ ⟨y,y,j8⟩⟩
  rintro a w1 ⟨az,s⟩
  subst az
  refine mv s y y fun a s=>?_
  obtain ⟨U,N,u⟩:=bt u
  refine y7 5 (fun a w=>∃ f,Sl 111 [(1,pt b5),(89,.bool U)] a∧Wd ⟨w0,S0,[]⟩ f [.box b5 (a2k s1 p2 k3) 138] [Sq p2 k3 s1.Taps] w) ?_ ?_
  ·rcases j0 (((s1.Num.e0 == 0) && ((s1.Num.e1 == 0) && ((s1.Num.e2 == 0) && true))) && ((s1.Den.e0 == 0) && ((s1.Den.e1 == 0) && ((s1.Den.e2 == 0) && true)))) with B | B
   ·have s:=s.bT 84 y B
    have u:=D7 N B
    refine rn 3 [0] s d y y fun a s=>?_
    obtain ⟨aN,an,u⟩:=bt u
    refine x9 s (a1K an d.bdom) (j3 call180 y) ⟨_,y,y⟩ y y ?_
    rintro aW aE w a ao rfl s
    have d:=d.callB ao
    refine sv s (I6 y y) y fun a s=>l4 ?_
    obtain rfl:=oi u
    exact tn ⟨S0,wj s d [0] [0]⟩
   have s:=s.bF 84 y B
   have u:=E8 N B
   refine rn0 5 s y fun a s=>l4 ?_
   obtain rfl:=oi u
   exact tn ⟨S0,wj s d [0] [0]⟩
  rintro a w ⟨f,s,d⟩
  refine mv s y y fun a s=>?_
  obtain ⟨V,O,u⟩:=bt u
  refine y7 4 (fun a w=>∃ g,Sl 111 [(1,pt b5),(94,.bool V)] a∧Wd ⟨w0,S0,[]⟩ g [.box b5 (a2k s1 p2 k3) 138] [Sq p2 k3 s1.Taps] w) ?_ ?_
  ·rcases j0 U with C | C
   ·have s:=s.bT 90 y C
    have u:=D7 O C
    refine rn 2 [0] s d y y fun a s=>?_
    obtain ⟨aO,ap,u⟩:=bt u
    refine x9 s (a4R ap d.bdom (d.bE 0 y)) (j3 call181 y) ⟨_,y,y⟩ y y ?_
    rintro aX aF w a aq rfl s
    have d:=d.callB aq
    refine sv s (I6 y y) y fun a s=>l4 ?_
    obtain rfl:=oi u
    exact tn ⟨f,wj s d [0] [0]⟩
   have s:=s.bF 90 y C
   have u:=E8 O C
   refine rn0 4 s y fun a s=>l4 ?_
   obtain rfl:=oi u
   exact tn ⟨f,wj s d [0] [0]⟩
  rintro a w ⟨g,s,d⟩
  refine mv s y y fun a s=>?_
  obtain ⟨W,P,u⟩:=bt u
  refine y7 5 (fun a w=>∃ h,Sl 111 [(1,pt b5),(100,.bool W)] a∧Wd ⟨w0,S0,[]⟩ h [.box b5 (a2k s1 p2 k3) 138] [Sq p2 k3 s1.Taps] w) ?_ ?_
  ·rcases j0 V with D | D
   ·have s:=s.bT 95 y D
    have u:=D7 P D
    refine rn 2 [0] s d y y fun a s=>?_
    obtain ⟨aP,ar,u⟩:=bt u
    refine x9 s (b1J ar d.bdom (d.bE 0 y)) (j3 call182 y) ⟨_,y,y⟩ y y ?_
    rintro aY aG w a au rfl s
    have d:=d.callB au
    refine rn0 2 s y fun a s=>l4 ?_
    obtain rfl:=oi u
    exact tn ⟨g,wj s d [0] [0]⟩
   have s:=s.bF 95 y D
   have u:=E8 P D
   refine rn0 5 s y fun a s=>l4 ?_
   obtain rfl:=oi u
   exact tn ⟨g,wj s d [0] [0]⟩
  rintro a w ⟨h,s,d⟩
  refine mv s y y fun a s=>?_
  obtain ⟨X,Q,u⟩:=bt u
  refine y7 4 (fun a w=>∃ i,Sl 111 [(1,pt b5),(105,.bool X)] a∧Wd ⟨w0,S0,[]⟩ i [.box b5 (a2k s1 p2 k3) 138] [Sq p2 k3 s1.Taps] w) ?_ ?_
  ·rcases j0 W with E | E
   ·have s:=s.bT 101 y E
    have u:=D7 Q E
    refine rn 2 [0] s d y y fun a s=>?_
    obtain ⟨aQ,av,u⟩:=bt u
    refine x9 s (a1K av d.bdom) (j3 call180 y) ⟨_,y,y⟩ y y ?_
    rintro aZ aH w a aw rfl s
    have d:=d.callB aw
    refine sv s (I6 y y) y fun a s=>l4 ?_
    obtain rfl:=oi u
    exact tn ⟨h,wj s d [0] [0]⟩
   have s:=s.bF 101 y E
   have u:=E8 Q E
   refine rn0 4 s y fun a s=>l4 ?_
   obtain rfl:=oi u
   exact tn ⟨h,wj s d [0] [0]⟩
  rintro a w ⟨i,s,d⟩
  refine mv s y y fun a s=>?_
  obtain ⟨ab,R,u⟩:=bt u
  refine y7 4 (fun a w=>∃ I,Sl 111 [(110,.bool ab)] a∧Wd ⟨w0,S0,[]⟩ I [] [] w) ?_ ?_
  ·rcases j0 X with F | F
   ·have s:=s.bT 106 y F
    have u:=D7 R F
    refine rn 2 [0] s d y y fun a s=>?_
    obtain ⟨aR,ax,u⟩:=bt u
    refine x9 s (a1K ax d.bdom) (j3 call180 y) ⟨_,y,y⟩ y y ?_
    rintro a0 aI w a ay rfl s
    have d:=d.callB ay
    refine sv s (I6 y y) y fun a s=>l4 ?_
    obtain rfl:=oi u
    exact tn ⟨i,wj s d [] []⟩
   have s:=s.bF 106 y F
   have u:=E8 R F
   refine rn0 4 s y fun a s=>l4 ?_
   obtain rfl:=oi u
   exact tn ⟨i,wj s d [] []⟩
  rintro a w ⟨I,s,d⟩
  refine rz0 1 s y fun a s=>?_
  obtain rfl:=oi u
  exact t7 (o8 (j4 (rt s y (d.ret y))))
 refine D1 (l9 (tn (sz0 1 s y fun a s=>?_)))
 obtain rfl:=oi u
 exact q1 s y (d.ret y)
theorem a8m {w0 S0 p2 k3 s1 r} (u:R8 s1=some r) (hS:Dm S0 w0) (h4:(Sq p2 k3 s1.Taps).p S0 w0):Ck Tryz.prog 145 #[V138 s1 p2 k3] w0 S0 [] o5 r:=by
 refine en 6 func145 y hS y y y fun a s d=>?_
 have d:=d.addE h4
 refine sr (wb (a2k s1 p2 k3) s d y fun b5 a w s d=>?_)
 refine rz0 1 s y fun a s=>sn 1 [0] s d y y fun a s=>?_
 obtain ⟨b,h6,u⟩:=bt u
 refine cV s d (a7V h6 d.bdom (d.bE 0 y)) (j3 call146 y) y fun a w s d=>rz0 2 s y fun a s=>?_
 obtain rfl:=oi u
 exact q1 s y (d.ret y)
theorem a8l (S0:Nat→Prop) (w0:World):(a6o Tryz.prog 145 [] [] R8).p S0 w0:=by
  refine ⟨call145,?_⟩
  rintro S1 w1 hk hS c0 x0 r1 ⟨_,_,_,_,_,_,_,_,_,_,rfl,rfl,rfl,rfl,rfl,rfl,rfl,rfl,⟨_,_,_,rfl,e0⟩,rfl,rfl⟩ hf
  obtain rfl:=e0.1
  exact a8m hf hS e0
theorem a9V {w0 S0 p2 k3 l1 r} (u:a4c l1=some r) (hS:Dm S0 w0) (h4:(Sq p2 k3 l1).p S0 w0):Ck Tryz.prog 147 #[sl p2 k3 l1] w0 S0 [] K7 r:=by
 refine en 23 func147 y hS y y y fun a s d=>?_
 have d:=d.addE h4
 refine sz0 1 s y fun a s=>sz0 1 s y fun a s=>l3 (sz0 3 s y fun a s=>?_)
 refine m6 (u7 (fun b a w=>∃ c,Sl 23 [(3,iv b.1),(6,sl p2 k3 l1),(7,iv (l1.length:Int)),(8,iv b.2)] a∧Wd ⟨w0,S0,[]⟩ c [] [Sq p2 k3 l1] w) (1,0) u ⟨S0,wj s d [] [0]⟩ ?_)
 repeat clear u
 rintro b a w t ⟨c,s,d⟩ u h
 refine sz0 1 s y fun a s=>l3 (cd s u y (fun u=>?_) fun u=>?_)
 ·refine sk (l3 (A7 (fun a w=>∃ (n192:Int) (f:_),a0L b n192=some t∧Sl 23 [(3,iv n192),(6,sl p2 k3 l1),(7,iv (l1.length:Int)),(8,iv b.2)] a∧Wd ⟨w0,S0,[]⟩ f [] [Sq p2 k3 l1] w) ?_ ?_))
  ·refine m6 (sr ?_)
   obtain ⟨q,v,u⟩:=bt u
   obtain ⟨F,I,J,H,B,i,z,A,x⟩:=d.elemV 0 y v
   have l:=s
   have m:=d
   subst B
   have s:=l
   have d:=m
   obtain ⟨_,_,_,_,_,_,_,_,_,_,rfl,rfl,rfl,rfl,rfl,rfl,rfl,rfl,⟨o,n207,n,rfl,k⟩,rfl,rfl⟩:=x
   obtain rfl:=k.1
   have d:=(d.addE (e:=SlA o _ n q.Taps) k).addE A
   refine sv s (o7 C4 C0 y y i.1 i.2 z) y fun a s=>sv s (D5 (j:=0) (d.ceAt 0 y) y H1 C0 y y) y fun a s=>wa Z0 s d zeroValue138 fun G a w s d=>ws (a2k q o n) s d 0 y y y C0 fun a w s d=>nl (l3 (sz 3 [0] s d y y fun a s=>?_))
   refine cd s u y (fun u=>?_) fun u=>?_
   ·exact u0 (j5 (o9 (tn ⟨b.1,c,u,wj s d [] [2]⟩)))
   refine sk (sn 4 [0] s d y y fun a s=>?_)
   obtain ⟨n214,C,u⟩:=bt u
   refine sv s (w9 y C) y fun a s=>nl (sz0 2 s y fun a s=>?_)
   refine cd s u y (fun u=>?_) fun u=>?_
   ·refine sz0 1 s y fun a s=>?_
    obtain rfl:=oi u
    have D:=h _ y
    subst D
    exact t7 (o8 (j4 (j4 (j4 (o8 (j4 (rt s y (d.ret y))))))))
   exact D1 (l9 (tn ⟨n214,c,u,wj s d [] [2]⟩))
  rintro a w ⟨n192,f,u,s,d⟩
  refine tn (j9 (rz0 2 s y fun a s=>?_))
  exact ⟨_,io u,f,wj s d [] [0]⟩
 obtain ⟨E,u,g⟩:=X5 u
 have g:=(h _ g.symm).symm
 subst g
 refine u0 (j5 (j5 (o9 (tn (sz0 2 s y fun a s=>?_)))))
 obtain rfl:=oi u
 exact q1 s y (d.ret y)
theorem b0C {w0 S0 p2 k3 r1 r} (u:a0k r1=some r) (hS:Dm S0 w0) (h4:(Sq p2 k3 r1.Stages).p S0 w0):Ck Tryz.prog 123 #[.agg #[sl p2 k3 r1.Stages]] w0 S0 [] o5 r:=by
 refine en 16 func123 y hS y y y fun a s d=>?_
 have d:=d.addE h4
 refine sr (wb [sl p2 k3 r1.Stages] s d y fun b5 a w s d=>?_)
 refine rz0 1 s y fun a s=>l3 (sn 5 [0] s d y y fun a s=>?_)
 obtain ⟨f,e,u⟩:=bt u
 refine y7 4 (fun a w=>∃ c,Sl 16 [(1,pt b5),(11,.bool f)] a∧Wd ⟨w0,S0,[]⟩ c [.box b5 [sl p2 k3 r1.Stages] 39] [Sq p2 k3 r1.Stages] w) ?_ ?_
 ·rcases j0 (decide (8<(r1.Stages.length:Int))) with b | b
  ·have s:=s.bT 7 y b
   have u:=D7 e b
   refine rn0 4 s y fun a s=>l4 ?_
   obtain rfl:=oi u
   exact tn ⟨S0,wj s d [0] [0]⟩
  have s:=s.bF 7 y b
  have u:=E8 e b
  refine rn 2 [0] s d y y fun a s=>?_
  obtain ⟨k,g,u⟩:=bt u
  refine x9 s (a1P g d.bdom (d.bE 0 y) (a8l _ _)) (j3 call144 y) ⟨_,y,y⟩ y y ?_
  rintro m j w a h rfl s
  have d:=d.callB h
  refine sv s (b0Q y y) y fun a s=>l4 ?_
  obtain rfl:=oi u
  exact tn ⟨S0,wj s d [0] [0]⟩
 rintro a w ⟨c,s,d⟩
 refine nl (cd s u y (fun u=>?_) fun u=>?_)
 ·refine sz0 1 s y fun a s=>?_
  obtain rfl:=oi u
  exact t7 (j4 (rt s y (d.ret y)))
 refine sk (sn 2 [0] s d y y fun a s=>?_)
 obtain ⟨l,i,u⟩:=bt u
 refine cV s d (a9V i d.bdom (d.bE 0 y)) (j3 call147 y) y fun a w s d=>rz0 2 s y fun a s=>?_
 obtain rfl:=oi u
 exact q1 s y (d.ret y)
theorem a3S {w0 S0 n1 c b r} (u:a3k n1 c b=some r) (hS:Dm S0 w0):Ck Tryz.prog 124 #[iv n1,iv c,iv b] w0 S0 [] o5 r:=by
 refine en 15 func124 y hS y y y fun a s d=>sz0 1 s y fun a s=>sn0 4 s y fun a s=>rA 4 10 [] s d y y y y y fun a s=>rz0 1 s y fun a s=>?_
 obtain rfl:=oi u
 exact q1 s y (d.ret y)
theorem V3 {w0 S0 p2 k3 e1 r} (u:U9 e1=some r) (hS:Dm S0 w0) (h4:(Sq p2 k3 e1.Response.Stages).p S0 w0):Ck Tryz.prog 86 #[V41 e1 p2 k3] w0 S0 [] o5 r:=by
 refine en 46 func86 y hS y y y fun a s d=>?_
 have d:=d.addE h4
 refine sr (wb (C41 e1 p2 k3) s d y fun b5 a w s d=>?_)
 refine rz0 1 s y fun a s=>sn 2 [0] s d y y fun a s=>wa [iv 0,iv 0,iv 0] s d zeroValue36 fun b6 a w s d=>ws (C36 e1.Position) s d 0 y y y K1 fun a w s d=>nl (sn 4 [1] s d y y fun a s=>?_)
 refine rA 6 9 [1,1] s d y y y y y fun a s=>mv s y y fun a s=>rA 4 16 [1] s d y y y y y fun a s=>mv s y y fun a s=>?_
 obtain ⟨v,m,u⟩:=bt u
 refine y7 4 (fun a w=>∃ b,Sl 46 [(1,pt b5),(3,pt b6),(25,.bool v)] a∧Wd ⟨w0,S0,[]⟩ b [.box b5 (C41 e1 p2 k3) 41,.box b6 (C36 e1.Position) 36] [Sq p2 k3 e1.Response.Stages] w) ?_ ?_
 ·rcases j0 (((decide (0≤e1.From)) && (decide (e1.From<e1.To))) && (decide (e1.To≤9007199254740992))) with g | g
  ·have s:=s.bT 21 y g
   have u:=D7 m g
   refine rn 2 [1] s d y y fun a s=>?_
   obtain ⟨R,C,u⟩:=bt u
   refine x9 s (b2U C d.bdom) (j3 call122 y) ⟨_,y,y⟩ y y ?_
   rintro X M w a D rfl s
   have d:=d.callB D
   refine sv s (I6 y y) y fun a s=>l4 ?_
   obtain rfl:=oi u
   exact tn ⟨S0,wj s d [1,0] [0]⟩
  have s:=s.bF 21 y g
  have u:=E8 m g
  refine rn0 4 s y fun a s=>l4 ?_
  obtain rfl:=oi u
  exact tn ⟨S0,wj s d [1,0] [0]⟩
 rintro a w ⟨b,s,d⟩
 refine mv s y y fun a s=>?_
 obtain ⟨x,n,u⟩:=bt u
 refine y7 4 (fun a w=>∃ c,Sl 46 [(3,pt b6),(30,.bool x)] a∧Wd ⟨w0,S0,[]⟩ c [.box b6 (C36 e1.Position) 36] [] w) ?_ ?_
 ·rcases j0 v with h | h
  ·have s:=s.bT 26 y h
   have u:=D7 n h
   refine rn 2 [0] s d y y fun a s=>?_
   obtain ⟨S,E,u⟩:=bt u
   refine x9 s (b0C E d.bdom (d.bE 0 y)) (j3 call123 y) ⟨_,y,y⟩ y y ?_
   rintro Y N w a F rfl s
   have d:=d.callB F
   refine sv s (I6 y y) y fun a s=>l4 ?_
   obtain rfl:=oi u
   exact tn ⟨b,wj s d [1] []⟩
  have s:=s.bF 26 y h
  have u:=E8 n h
  refine rn0 4 s y fun a s=>l4 ?_
  obtain rfl:=oi u
  exact tn ⟨b,wj s d [1] []⟩
 rintro a w ⟨c,s,d⟩
 refine mv s y y fun a s=>?_
 obtain ⟨z,o,u⟩:=bt u
 refine y7 4 (fun a w=>∃ e,Sl 46 [(3,pt b6),(35,.bool z)] a∧Wd ⟨w0,S0,[]⟩ e [.box b6 (C36 e1.Position) 36] [] w) ?_ ?_
 ·rcases j0 x with i | i
  ·have s:=s.bT 31 y i
   have u:=D7 o i
   refine rn 2 [0] s d y y fun a s=>?_
   obtain ⟨T,G,u⟩:=bt u
   refine x9 s (a3S G d.bdom) (j3 call124 y) ⟨_,y,y⟩ y y ?_
   rintro Z O w a H rfl s
   have d:=d.callB H
   refine sv s (I6 y y) y fun a s=>l4 ?_
   obtain rfl:=oi u
   exact tn ⟨c,wj s d [0] []⟩
  have s:=s.bF 31 y i
  have u:=E8 o i
  refine rn0 4 s y fun a s=>l4 ?_
  obtain rfl:=oi u
  exact tn ⟨c,wj s d [0] []⟩
 rintro a w ⟨e,s,d⟩
 refine mv s y y fun a s=>?_
 obtain ⟨A,q,u⟩:=bt u
 refine y7 4 (fun a w=>∃ f,Sl 46 [(3,pt b6),(40,.bool A)] a∧Wd ⟨w0,S0,[]⟩ f [.box b6 (C36 e1.Position) 36] [] w) ?_ ?_
 ·rcases j0 z with j | j
  ·have s:=s.bT 36 y j
   have u:=D7 q j
   refine rn 2 [0] s d y y fun a s=>?_
   obtain ⟨U,I,u⟩:=bt u
   refine x9 s (a3S I d.bdom) (j3 call124 y) ⟨_,y,y⟩ y y ?_
   rintro aa P w a J rfl s
   have d:=d.callB J
   refine sv s (I6 y y) y fun a s=>l4 ?_
   obtain rfl:=oi u
   exact tn ⟨e,wj s d [0] []⟩
  have s:=s.bF 36 y j
  have u:=E8 q j
  refine rn0 4 s y fun a s=>l4 ?_
  obtain rfl:=oi u
  exact tn ⟨e,wj s d [0] []⟩
 rintro a w ⟨f,s,d⟩
 refine mv s y y fun a s=>?_
 obtain ⟨B,t,u⟩:=bt u
 refine y7 4 (fun a w=>∃ l,Sl 46 [(45,.bool B)] a∧Wd ⟨w0,S0,[]⟩ l [] [] w) ?_ ?_
 ·rcases j0 A with k | k
  ·have s:=s.bT 41 y k
   have u:=D7 t k
   refine rn 2 [0] s d y y fun a s=>?_
   obtain ⟨V,K,u⟩:=bt u
   refine x9 s (a3S K d.bdom) (j3 call124 y) ⟨_,y,y⟩ y y ?_
   rintro W Q w a L rfl s
   have d:=d.callB L
   refine sv s (I6 y y) y fun a s=>l4 ?_
   obtain rfl:=oi u
   exact tn ⟨f,wj s d [] []⟩
  have s:=s.bF 41 y k
  have u:=E8 t k
  refine rn0 4 s y fun a s=>l4 ?_
  obtain rfl:=oi u
  exact tn ⟨f,wj s d [] []⟩
 rintro a w ⟨l,s,d⟩
 refine rz0 1 s y fun a s=>?_
 obtain rfl:=oi u
 exact q1 s y (d.ret y)
theorem a3C {w0 S0 p2 k3 l1 r} (u:a5l l1=some r) (hS:Dm S0 w0) (h4:(Sq p2 k3 l1).p S0 w0):Ck Tryz.prog 102 #[sl p2 k3 l1] w0 S0 [] o5 r:=by
 refine en 34 func102 y hS y y y fun a s d=>?_
 have d:=d.addE h4
 refine sz0 1 s y fun a s=>l3 (sz0 3 s y fun a s=>?_)
 refine m6 (u7 (fun f a w=>∃ b,Sl 34 [(0,sl p2 k3 l1),(5,sl p2 k3 l1),(6,iv (l1.length:Int)),(7,iv f)] a∧Wd ⟨w0,S0,[]⟩ b [] [Sq p2 k3 l1] w) 0 u ⟨S0,wj s d [] [0]⟩ ?_)
 repeat clear u
 rintro f a w ae ⟨b,s,d⟩ u x
 refine sz0 1 s y fun a s=>l3 (cd s u y (fun u=>?_) fun u=>?_)
 ·refine sk (l3 (m6 (sn0 1 s y fun a s=>?_)))
  obtain ⟨H,K,u⟩:=bt u
  obtain ⟨k,o,ai,ag,O,A,M,N,L⟩:=d.elemV 0 y K
  have D:=s
  have E:=d
  subst O
  have s:=D
  have d:=E
  obtain ⟨_,_,_,_,_,_,_,_,rfl,rfl,rfl,rfl,rfl,rfl,rfl,rfl,⟨G,n291,F,rfl,B⟩⟩:=L
  obtain rfl:=B.1
  have d:=(d.addE (e:=SlA G _ F H.Response.Stages) B).addE N
  refine sv s (o7 o4 t6 y y A.1 A.2 M) y fun a s=>sv s (D5 (j:=0) (d.ceAt 0 y) y E3 t6 y y) y fun a s=>wa Z1 s d zeroValue41 fun af a w s d=>av s y y fun a s=>ws (C41 H G F) s d 0 y y y t6 fun a w s d=>nl (l3 ?_)
  obtain ⟨I,l,u⟩:=bt u
  obtain ⟨J,q,u⟩:=bt u
  refine C7 (fun a w=>∃ h,Sl 34 [(0,sl (some ⟨k,o,none⟩) k3 l1),(5,sl (some ⟨k,o,none⟩) k3 l1),(6,iv (l1.length:Int)),(7,iv f),(29,.bool J)] a∧Wd ⟨w0,S0,[]⟩ h [] [Sq (some ⟨k,o,none⟩) k3 l1] w) ?_ ?_
  ·rcases j0 (!I) with c | c
   ·have P:=D7 q c
    refine h_c [0] [0] d y y (by kernel_rfl) y fun hC d=>gv s 0 y y hC (fun w hC=>Y0 (hC.ownAt 0 y) y E3 t6 y y) fun a s=>ho 1 y ?_
    refine cV s d (V3 l d.bdom (d.bE 1 y)) (j3 call86 y) y fun a w s d=>h_n [0] [0] d y y fun hC=>gn 2 [2,3] [] s hC y y y fun a s=>?_
    have s:=s.bT 15 y c
    refine gn 13 [4,5,6,7,8,9,10,11,12,13,14,15,16] [] s hC y y y fun a s=>gT s 17 y y hC y y P fun a s=>q9 (by kernel_rfl) ?_
    exact ⟨b,wj s d [] [2]⟩
   have i:=E8 q c
   obtain ⟨z,t,i⟩:=K3 i
   rcases j0 (decide (0<f)) with g | g
   ·have m:=D7 t g
    obtain ⟨ab,Q,m⟩:=K3 m
    obtain ⟨aa,ah,S,T,U,R⟩:=d.elemK 2 y Q
    obtain ⟨_,_,_,_,_,_,_,_,rfl,rfl,rfl,rfl,rfl,rfl,rfl,rfl,⟨Z,n345,Y,rfl,C⟩⟩:=R
    obtain rfl:=C.1
    have d:=(d.addE (e:=SlA Z _ Y ab.Response.Stages) C).addE U
    refine h_c [0] [0,2] d y y (by kernel_rfl) y fun hC d=>gv s 0 y y hC (fun w hC=>Y0 (hC.ownAt 0 y) y E3 t6 y y) fun a s=>ho 1 y ?_
    refine cV s d (V3 l d.bdom (d.bE 3 y)) (j3 call86 y) y fun a w s d=>h_n [0] [0,2] d y y fun hC=>gn 2 [2,3] [] s hC y y y fun a s=>?_
    have s:=s.bF 15 y c
    refine gn 3 [4,5,6] [] s hC y y y fun a s=>?_
    have s:=s.bT 18 y g
    refine gn 5 [7,8,9,10,11] [0] s hC y y y fun a s=>gx s 12 y ⟨_,y,y⟩ y hC o4 t6 y y S T fun a s=>gt s 13 y ⟨_,y,y⟩ y hC (fun w hC=>l7 (o':=aa+1) B7 y m8 y y y) fun a s=>gt s 14 y ⟨_,y,y⟩ y hC (fun w hC=>F5 (j:=1) (hC.ceAt 0 y) y s8 y) fun a s=>gt s 15 y ⟨_,y,y⟩ y hC (fun w hC=>b1G y y) fun a s=>gt s 16 y ⟨_,y,y⟩ y hC (fun w hC=>a6H (v:=.bool z) y y (vbs m)) fun a s=>gF s 17 y y hC y y i fun a s=>q9 (by kernel_rfl) ?_
    exact ⟨b,wj s d [] [4]⟩
   have V:=E8 t g
   refine h_c [0] [0] d y y (by kernel_rfl) y fun hC d=>gv s 0 y y hC (fun w hC=>Y0 (hC.ownAt 0 y) y E3 t6 y y) fun a s=>ho 1 y ?_
   refine cV s d (V3 l d.bdom (d.bE 1 y)) (j3 call86 y) y fun a w s d=>h_n [0] [0] d y y fun hC=>gn 2 [2,3] [] s hC y y y fun a s=>?_
   have s:=s.bF 15 y c
   refine gn 3 [4,5,6] [] s hC y y y fun a s=>?_
   have s:=s.bF 18 y g
   refine gn 9 [7,8,9,10,11,12,13,14,15] [] s hC y y y fun a s=>gt s 16 y ⟨_,y,y⟩ y hC (fun w hC=>a7x (v:=.bool z) y y (vbs V)) fun a s=>gF s 17 y y hC y y i fun a s=>q9 (by kernel_rfl) ?_
   exact ⟨b,wj s d [] [2]⟩
  rintro a w ⟨h,s,d⟩
  refine tn (cd s u y (fun u=>?_) fun u=>?_)
  ·refine sz0 1 s y fun a s=>?_
   obtain rfl:=oi u
   have W:=x _ y
   subst W
   exact t7 (o8 (j4 (j4 (o8 (j4 (rt s y (d.ret y)))))))
  refine D1 (l9 (tn (j9 (rz0 2 s y fun a s=>?_))))
  exact ⟨_,io u,h,wj s d [] [0]⟩
 obtain ⟨ad,u,n⟩:=X5 u
 have n:=(x _ n.symm).symm
 subst n
 refine u0 (j5 (j5 (o9 (tn (sn0 2 s y fun a s=>?_)))))
 obtain ⟨ac,X,u⟩:=bt u
 refine cV s d (a3S X d.bdom) (j3 call124 y) y fun a w s d=>rz0 1 s y fun a s=>?_
 obtain rfl:=oi u
 exact q1 s y (d.ret y)
theorem a6f {w0 S0 x1 r} (u:cmp_isNaN_string x1=some r) (hS:Dm S0 w0):Ck Tryz.prog 148 #[.string x1] w0 S0 [] o5 r:=by
 refine en 6 func148 y hS y y y fun a s d=>sz0 1 s y fun a s=>sn0 2 s y fun a s=>sv s (y_neqS y y) y fun a s=>rz0 1 s y fun a s=>?_
 obtain rfl:=oi u
 exact q1 s y (d.ret y)
theorem a0P {w0 S0 x1 y2 r} (u:U6 x1 y2=some r) (hS:Dm S0 w0):Ck Tryz.prog 128 #[.string x1,.string y2] w0 S0 [] K7 r:=by
 refine en 20 func128 y hS y y y fun a s d=>sz0 1 s y fun a s=>sn0 1 s y fun a s=>?_
 obtain ⟨e,h3,u⟩:=bt u
 refine cV s d (a6f h3 d.bdom) (j3 call148 y) y fun a w s d=>rz0 1 s y fun a s=>sn0 1 s y fun a s=>?_
 obtain ⟨c,b,u⟩:=bt u
 refine cV s d (a6f b d.bdom) (j3 call148 y) y fun a w s d=>rz0 1 s y fun a s=>l3 (sz0 1 s y fun a s=>?_)
 refine cd s u y (fun u=>?_) fun u=>?_
 ·refine l3 (sz0 1 s y fun a s=>?_)
  refine cd s u y (fun u=>?_) fun u=>?_
  ·refine sz0 1 s y fun a s=>?_
   obtain rfl:=oi u
   exact t7 (j4 (j4 (rt s y (d.ret y))))
  refine sk (sz0 1 s y fun a s=>?_)
  obtain rfl:=oi u
  exact t7 (j4 (rt s y (d.ret y)))
 refine sk (l3 (sz0 1 s y fun a s=>?_))
 refine cd s u y (fun u=>?_) fun u=>?_
 ·refine sz0 1 s y fun a s=>?_
  obtain rfl:=oi u
  exact t7 (j4 (rt s y (d.ret y)))
 refine sk (l3 (sn0 2 s y fun a s=>?_))
 refine sv s (y_lssS y y) y fun a s=>nl (cd s u y (fun u=>?_) fun u=>?_)
 ·refine sz0 1 s y fun a s=>?_
  obtain rfl:=oi u
  exact t7 (j4 (rt s y (d.ret y)))
 refine sk (l3 (sn0 2 s y fun a s=>?_))
 refine sv s (y_gtrS y y) y fun a s=>nl (cd s u y (fun u=>?_) fun u=>?_)
 ·refine sz0 1 s y fun a s=>?_
  obtain rfl:=oi u
  exact t7 (j4 (rt s y (d.ret y)))
 refine sk (sz0 1 s y fun a s=>?_)
 obtain rfl:=oi u
 exact q1 s y (d.ret y)
theorem b2Q {w0 S0 p2 k3 b r} (u:a7C b=some r) (hS:Dm S0 w0) (h4:(Sq p2 k3 b).p S0 w0):Ck Tryz.prog 127 #[sl p2 k3 b] w0 S0 [] K7 r:=by
 refine en 18 func127 y hS y y y fun a s d=>?_
 have d:=d.addE h4
 refine sz0 1 s y fun a s=>sz0 1 s y fun a s=>l3 (sz0 3 s y fun a s=>?_)
 refine m6 (u7 (fun k a w=>∃ c,Sl 18 [(3,iv 0),(6,sl p2 k3 b),(7,iv (b.length:Int)),(8,iv k)] a∧Wd ⟨w0,S0,[]⟩ c [] [Sq p2 k3 b] w) 0 u ⟨S0,wj s d [] [0]⟩ ?_)
 repeat clear u
 rintro k a w x ⟨c,s,d⟩ u f
 refine sz0 1 s y fun a s=>l3 (cd s u y (fun u=>?_) fun u=>?_)
 ·refine sk (l3 (m6 (sr ?_)))
  obtain ⟨D,l,u⟩:=bt u
  obtain ⟨z,B,C,A,q,g,n,o,m⟩:=d.elemV 0 y l
  have h:=s
  have i:=d
  subst q
  have s:=h
  have d:=i
  obtain ⟨_,rfl,rfl⟩:=m
  have d:=d.addE o
  refine sv s (o7 C5 m8 y y g.1 g.2 n) y fun a s=>sv s (F5 (j:=0) (d.ceAt 0 y) y s8 y) y fun a s=>rz0 1 s y fun a s=>sz0 3 s y fun a s=>cd s u y (fun u=>?_) fun u=>?_
  ·refine sz0 2 s y fun a s=>?_
   obtain rfl:=oi u
   have t:=f _ y
   subst t
   exact t7 (o8 (j4 (j4 (o8 (j4 (rt s y (d.ret y)))))))
  refine D1 (l9 (tn (j9 (rz0 2 s y fun a s=>?_))))
  exact ⟨_,io u,c,wj s d [] [1]⟩
 obtain ⟨v,u,e⟩:=X5 u
 have e:=(f _ e.symm).symm
 subst e
 refine u0 (j5 (j5 (o9 (tn (sz0 2 s y fun a s=>?_)))))
 obtain rfl:=oi u
 exact q1 s y (d.ret y)
theorem a4W {w0 S0 a1 b2 r} (u:a0m a1 b2=some r) (hS:Dm S0 w0):Ck Tryz.prog 92 #[V32 a1,V32 b2] w0 S0 [] K7 r:=by
 refine en 27 func92 y hS y y y fun a s d=>sr (wb (C32 a1) s d y fun b3 a w s d=>?_)
 refine wb (C32 b2) s d y fun b4 a w s d=>rz0 1 s y fun a s=>l3 ?_
 obtain ⟨f,h5,u⟩:=bt u
 obtain ⟨g,h7,u⟩:=bt u
 obtain ⟨b,h9,u⟩:=bt u
 obtain ⟨c,i,u⟩:=bt u
 obtain ⟨h,j,u⟩:=bt u
 refine C7 (fun a w=>∃ e,Sl 27 [(4,iv h)] a∧Wd ⟨w0,S0,[]⟩ e [] [] w) ?_ ?_
 ·refine h_c [0,1] [] d y y (by kernel_rfl) y fun hC d=>gn 16 [0,1,2,3,5,6,7,8,10,11,12,13,15,16,17,18] [1,0,1,0,1,0,1,0] s hC y y y fun a s=>ho 4 y ?_
  refine cV s d (a0P h5 d.bdom) (j3 call128 y) y fun a w s d=>h_n [0,1] [] d y y fun hC=>ho 9 y ?_
  refine cV s d (a0P h7 d.bdom) (j3 call128 y) y fun a w s d=>h_n [0,1] [] d y y fun hC=>ho 14 y ?_
  refine cV s d (a0P h9 d.bdom) (j3 call128 y) y fun a w s d=>h_n [0,1] [] d y y fun hC=>ho 19 y ?_
  refine cV s d (a0P i d.bdom) (j3 call128 y) y fun a w s d=>h_n [0,1] [] d y y fun hC=>ho 20 y ?_
  refine q8 (α:=Int) (vs:=[iv f,iv g,iv b,iv c]) (cs:=[iv f,iv g,iv b,iv c]) (xs:=([f,g,b,c]:List Int)) s d a6U y y y y y y ⟨⟨_,y,y⟩,⟨⟨_,y,y⟩,⟨⟨_,y,y⟩,⟨⟨_,y,y⟩,y⟩⟩⟩⟩ y j8 y fun k a w s d=>h_n [1,2] [] d y y fun hC=>h_d [1,2,0] [] [0,1] [] d y y y y fun hC=>ho 21 y ?_
  refine cV s d (b2Q j d.bdom (d.bRow 0 y 0 y)) (j3 call127 y) y fun a w s d=>h_n [1,2,0] [] d y y fun hC=>gv s 22 y y hC (fun w hC=>J6 y) fun a s=>q9 (by kernel_rfl) ?_
  exact ⟨S0,wj s d [] []⟩
 rintro a w ⟨e,s,d⟩
 refine tn ?_
 obtain rfl:=oi u
 exact q1 s y (d.ret y)
theorem a1U {w0 S0 p2 k3 b r} (u:a0r b=some r) (hS:Dm S0 w0) (h4:(Sq p2 k3 b.Channels).p S0 w0):Ck Tryz.prog 55 #[.agg #[sl p2 k3 b.Channels]] w0 S0 [] o5 r:=by
 refine en 45 func55 y hS y y y fun a s d=>?_
 have d:=d.addE h4
 refine sr (wb [sl p2 k3 b.Channels] s d y fun b5 a w s d=>?_)
 refine rz0 1 s y fun a s=>l3 (sz 4 [0] s d y y fun a s=>?_)
 refine m6 (u7 (fun h a w=>∃ c,Sl 45 [(1,pt b5),(6,sl p2 k3 b.Channels),(7,iv (b.Channels.length:Int)),(8,iv h)] a∧Wd ⟨w0,S0,[]⟩ c [.box b5 [sl p2 k3 b.Channels] 29] [Sq p2 k3 b.Channels] w) 0 u ⟨S0,wj s d [0] [0]⟩ ?_)
 repeat clear u
 rintro h a w az ⟨c,s,d⟩ u D
 refine sz0 1 s y fun a s=>l3 (cd s u y (fun u=>?_) fun u=>?_)
 ·refine sk (l3 (m6 (sn0 1 s y fun a s=>?_)))
  obtain ⟨P,S,u⟩:=bt u
  obtain ⟨t,A,aE,aB,W,G,U,V,T⟩:=d.elemV 0 y S
  have L:=s
  have M:=d
  subst W
  have s:=L
  have d:=M
  obtain ⟨_,_,_,_,_,rfl,rfl,rfl,rfl,rfl,⟨O,n327,N,rfl,H⟩⟩:=T
  obtain rfl:=H.1
  have d:=(d.addE (e:=SlA O _ N P.Epochs) H).addE V
  refine sv s (o7 m5 o3 y y G.1 G.2 U) y fun a s=>sv s (D5 (j:=0) (d.ceAt 0 y) y F2 o3 y y) y fun a s=>wa Z2 s d zeroValue73 fun aA a w s d=>av s y y fun a s=>ws (C73 P O N) s d 0 y y y o3 fun a w s d=>nl (l3 ?_)
  obtain ⟨Q,n,u⟩:=bt u
  obtain ⟨E,B,u⟩:=bt u
  obtain ⟨R,q,u⟩:=bt u
  refine C7 (fun a w=>∃ m,Sl 45 [(1,pt b5),(6,sl (some ⟨t,A,none⟩) k3 b.Channels),(7,iv (b.Channels.length:Int)),(8,iv h),(39,.bool R)] a∧Wd ⟨w0,S0,[]⟩ m [.box b5 [sl (some ⟨t,A,none⟩) k3 b.Channels] 29] [Sq (some ⟨t,A,none⟩) k3 b.Channels] w) ?_ ?_
  ·rcases j0 (!Q) with f | f
   ·have I:=D7 B f
    have J:E=true:=(Option.some.inj I).symm
    have X:=D7 q J
    refine h_c [0,1] [0] d y y (by kernel_rfl) y fun hC d=>gn 2 [0,1] [0] s hC y y y fun a s=>ho 2 y ?_
    refine cV s d (a2t n d.bdom) (j3 call85 y) y fun a w s d=>h_n [0,1] [0] d y y fun hC=>gn 2 [3,4] [] s hC y y y fun a s=>?_
    have s:=s.bT 17 y f
    refine gn 4 [5,6,7,8] [] s hC y y y fun a s=>gT s 9 y y hC y y I fun a s=>gm s 10 y y y hC fun a s=>?_
    have s:=s.bT 23 y J
    refine gn 15 [11,12,13,14,15,16,17,18,19,20,21,22,23,24,25] [] s hC y y y fun a s=>gT s 26 y y hC y y X fun a s=>q9 (by kernel_rfl) ?_
    exact ⟨c,wj s d [1] [2]⟩
   have i:=E8 B f
   obtain ⟨aw,x,i⟩:=K3 i
   rcases j0 E with g | g
   ·have Y:=D7 q g
    refine h_c [0,1] [0] d y y (by kernel_rfl) y fun hC d=>gn 2 [0,1] [0] s hC y y y fun a s=>ho 2 y ?_
    refine cV s d (a2t n d.bdom) (j3 call85 y) y fun a w s d=>h_n [0,1] [0] d y y fun hC=>gn 2 [3,4] [] s hC y y y fun a s=>?_
    have s:=s.bF 17 y f
    refine gn 2 [5,6] [0] s hC y y y fun a s=>ho 7 y ?_
    refine x9 s (a3C x d.bdom (d.bE 1 y)) (j3 call102 y) ⟨_,y,y⟩ y y ?_
    rintro aF ap w a Z rfl s
    have d:=d.callB Z
    refine h_n [0,1] [0] d y y fun hC=>gt s 8 y ⟨_,y,y⟩ y hC (fun w hC=>a5Z y) fun a s=>gF s 9 y y hC y y i fun a s=>gm s 10 y y y hC fun a s=>?_
    have s:=s.bT 23 y g
    refine gn 15 [11,12,13,14,15,16,17,18,19,20,21,22,23,24,25] [] s hC y y y fun a s=>gT s 26 y y hC y y Y fun a s=>q9 (by kernel_rfl) ?_
    exact ⟨c,wj s d [1] [2]⟩
   have o:=E8 q g
   obtain ⟨F,C,o⟩:=K3 o
   rcases j0 (decide (0<h)) with k | k
   ·have l:=D7 C k
    obtain ⟨ao,aa,l⟩:=K3 l
    obtain ⟨an,aC,ac,ad,ae,ab⟩:=d.elemK 2 y aa
    obtain ⟨_,_,_,_,_,rfl,rfl,rfl,rfl,rfl,⟨am,aD,al,rfl,K⟩⟩:=ab
    obtain rfl:=K.1
    have d:=(d.addE (e:=SlA am _ al ao.Epochs) K).addE ae
    obtain ⟨ax,af,l⟩:=K3 l
    refine h_c [0,1] [0,2] d y y (by kernel_rfl) y fun hC d=>gn 2 [0,1] [0] s hC y y y fun a s=>ho 2 y ?_
    refine cV s d (a2t n d.bdom) (j3 call85 y) y fun a w s d=>h_n [0,1] [0,2] d y y fun hC=>gn 2 [3,4] [] s hC y y y fun a s=>?_
    have s:=s.bF 17 y f
    refine gn 2 [5,6] [0] s hC y y y fun a s=>ho 7 y ?_
    refine x9 s (a3C x d.bdom (d.bE 3 y)) (j3 call102 y) ⟨_,y,y⟩ y y ?_
    rintro aG aq w a ag rfl s
    have d:=d.callB ag
    refine h_n [0,1] [0,2] d y y fun hC=>gt s 8 y ⟨_,y,y⟩ y hC (fun w hC=>a5Z y) fun a s=>gF s 9 y y hC y y i fun a s=>gm s 10 y y y hC fun a s=>?_
    have s:=s.bF 23 y g
    refine gn 3 [11,12,13] [] s hC y y y fun a s=>?_
    have s:=s.bT 26 y k
    refine gn 4 [14,15,16,17] [1] s hC y y y fun a s=>gx s 18 y ⟨_,y,y⟩ y hC m5 o3 y y ac ad fun a s=>gt s 19 y ⟨_,y,y⟩ y hC (fun w hC=>l7 (o':=an+0) u9 y s6 y y y) fun a s=>gt s 20 y ⟨_,y,y⟩ y hC (fun w hC=>D5 (j:=0) (hC.ceAt 0 y) y B9 s6 y y) fun a s=>gn 2 [21,22] [0] s hC y y y fun a s=>ho 23 y ?_
    refine x9 s (a4W af d.bdom) (j3 call92 y) ⟨_,y,y⟩ y y ?_
    rintro aH ar w a ah rfl s
    have d:=d.callB ah
    refine h_n [0,1] [0,2] d y y fun hC=>gt s 24 y ⟨_,y,y⟩ y hC (fun w hC=>a9C y y) fun a s=>gt s 25 y ⟨_,y,y⟩ y hC (fun w hC=>a6H (v:=.bool F) y y (vbs l)) fun a s=>gF s 26 y y hC y y o fun a s=>q9 (by kernel_rfl) ?_
    exact ⟨c,wj s d [1] [4]⟩
   have ai:=E8 C k
   refine h_c [0,1] [0] d y y (by kernel_rfl) y fun hC d=>gn 2 [0,1] [0] s hC y y y fun a s=>ho 2 y ?_
   refine cV s d (a2t n d.bdom) (j3 call85 y) y fun a w s d=>h_n [0,1] [0] d y y fun hC=>gn 2 [3,4] [] s hC y y y fun a s=>?_
   have s:=s.bF 17 y f
   refine gn 2 [5,6] [0] s hC y y y fun a s=>ho 7 y ?_
   refine x9 s (a3C x d.bdom (d.bE 1 y)) (j3 call102 y) ⟨_,y,y⟩ y y ?_
   rintro aI au w a aj rfl s
   have d:=d.callB aj
   refine h_n [0,1] [0] d y y fun hC=>gt s 8 y ⟨_,y,y⟩ y hC (fun w hC=>a5Z y) fun a s=>gF s 9 y y hC y y i fun a s=>gm s 10 y y y hC fun a s=>?_
   have s:=s.bF 23 y g
   refine gn 3 [11,12,13] [] s hC y y y fun a s=>?_
   have s:=s.bF 26 y k
   refine gn 11 [14,15,16,17,18,19,20,21,22,23,24] [] s hC y y y fun a s=>gt s 25 y ⟨_,y,y⟩ y hC (fun w hC=>a7x (v:=.bool F) y y (vbs ai)) fun a s=>gF s 26 y y hC y y o fun a s=>q9 (by kernel_rfl) ?_
   exact ⟨c,wj s d [1] [2]⟩
  rintro a w ⟨m,s,d⟩
  refine tn (cd s u y (fun u=>?_) fun u=>?_)
  ·refine sz0 1 s y fun a s=>?_
   obtain rfl:=oi u
   have ak:=D _ y
   subst ak
   exact t7 (o8 (j4 (j4 (o8 (j4 (rt s y (d.ret y)))))))
  refine D1 (l9 (tn (j9 (rz0 2 s y fun a s=>?_))))
  exact ⟨_,io u,m,wj s d [0] [0]⟩
 obtain ⟨ay,u,z⟩:=X5 u
 have z:=(D _ z.symm).symm
 subst z
 refine u0 (j5 (j5 (o9 (tn (sz 5 [0] s d y y fun a s=>?_)))))
 obtain rfl:=oi u
 exact q1 s y (d.ret y)
theorem Y2 {w0 S0 p2 k3 p6 k7 k i g b c} {eq9:Stage→Stage→Option Bool} {r} (u:I5 b c eq9=some r) (hS:Dm S0 w0) (h4:(Sq p2 k3 b).p S0 w0) (h8:(Sq p6 k7 c).p S0 w0) (U:(a8j Tryz.prog k i g eq9).p S0 w0):Ck Tryz.prog 168 #[sl p2 k3 b,sl p6 k7 c,.func (.func k) i.toArray g.toArray] w0 S0 [] o5 r:=by
 refine en 32 func168 y hS y y y fun a s d=>?_
 have d:=((d.addE h4).addE h8).addE U
 refine sz0 1 s y fun a s=>l3 (sz0 5 s y fun a s=>?_)
 refine cd s u y (fun u=>?_) fun u=>?_
 ·refine sz0 1 s y fun a s=>?_
  obtain rfl:=oi u
  exact t7 (j4 (rt s y (d.ret y)))
 refine sk (l3 (sz0 3 s y fun a s=>?_))
 refine m6 (u7 (fun m a w=>∃ f,Sl 32 [(1,sl p6 k7 c),(2,.func (.func k) i.toArray g.toArray),(15,sl p2 k3 b),(16,iv (b.length:Int)),(17,iv m)] a∧Wd ⟨w0,S0,[]⟩ f [] [Sq p6 k7 c,a8j Tryz.prog k i g eq9,Sq p2 k3 b] w) 0 u ⟨S0,wj s d [] [1,0,2]⟩ ?_)
 repeat clear u
 rintro m a w Y ⟨f,s,d⟩ u l
 refine sz0 1 s y fun a s=>l3 (cd s u y (fun u=>?_) fun u=>?_)
 ·refine sk (l3 (m6 (sn0 1 s y fun a s=>?_)))
  obtain ⟨F,H,u⟩:=bt u
  obtain ⟨Z,ah,aj,ad,L,n,J,K,I⟩:=d.elemV 2 y H
  have v:=s
  have z:=d
  subst L
  have s:=v
  have d:=z
  obtain ⟨_,_,_,_,_,_,_,_,_,_,rfl,rfl,rfl,rfl,rfl,rfl,rfl,rfl,⟨D,af,B,rfl,o⟩,rfl,rfl⟩:=I
  obtain rfl:=o.1
  have d:=(d.addE (e:=SlA D _ B F.Taps) o).addE K
  refine sv s (o7 C4 C0 y y n.1 n.2 J) y fun a s=>sv s (D5 (j:=0) (d.ceAt 0 y) y H1 C0 y y) y fun a s=>wa Z0 s d zeroValue138 fun aa a w s d=>av s y y fun a s=>ws (a2k F D B) s d 0 y y y C0 fun a w s d=>nl (sn0 2 s y fun a s=>?_)
  obtain ⟨G,M,u⟩:=bt u
  obtain ⟨ab,ai,ak,ae,Q,q,O,P,N⟩:=d.elemV 2 y M
  have x:=s
  have A:=d
  subst Q
  have s:=x
  have d:=A
  obtain ⟨_,_,_,_,_,_,_,_,_,_,rfl,rfl,rfl,rfl,rfl,rfl,rfl,rfl,⟨E,ag,C,rfl,t⟩,rfl,rfl⟩:=N
  obtain rfl:=t.1
  have d:=(d.addE (e:=SlA E _ C G.Taps) t).addE P
  refine sv s (o7 C4 C0 y y q.1 q.2 O) y fun a s=>sv s (D5 (j:=0) (d.ceAt 0 y) y H1 C0 y y) y fun a s=>wa Z0 s d zeroValue138 fun ac a w s d=>ws (a2k G E C) s d 0 y y y C0 fun a w s d=>nl (sn 3 [1,0] s d y y fun a s=>?_)
  obtain ⟨W,R,u⟩:=bt u
  refine x9 s ((d.bE 5 y).2 a2O.rfl' d.bdom ⟨_,_,_,_,_,_,_,_,_,_,y,y,y,y,y,y,y,y,⟨_,_,_,y,d.bE 3 y⟩,y,y⟩ ⟨_,_,_,_,_,_,_,_,_,_,y,y,y,y,y,y,y,y,⟨_,_,_,y,d.bE 1 y⟩,y,y⟩ R) (a4A (d.bE 5 y).1 y y) j8 y y ?_
  rintro al V w a S rfl s
  have d:=d.callB S
  refine rz0 1 s y fun a s=>cd s u y (fun u=>?_) fun u=>?_
  ·refine sz0 1 s y fun a s=>?_
   obtain rfl:=oi u
   have T:=l _ y
   subst T
   exact t7 (o8 (j4 (j4 (o8 (j4 (rt s y (d.ret y)))))))
  refine D1 (l9 (tn (j9 (rz0 2 s y fun a s=>?_))))
  exact ⟨_,io u,f,wj s d [] [4,5,6]⟩
 obtain ⟨X,u,h⟩:=X5 u
 have h:=(l _ h.symm).symm
 subst h
 refine u0 (j5 (j5 (o9 (tn (sz0 1 s y fun a s=>?_)))))
 obtain rfl:=oi u
 exact q1 s y (d.ret y)
theorem a7f {w0 S0 p2 k3 p6 k7 b c r} (u:a0T b c=some r) (hS:Dm S0 w0) (h4:(Sq p2 k3 b).p S0 w0) (h8:(Sq p6 k7 c).p S0 w0):Ck Tryz.prog 170 #[sl p2 k3 b,sl p6 k7 c] w0 S0 [] o5 r:=by
 refine en 26 func170 y hS y y y fun a s d=>?_
 have d:=(d.addE h4).addE h8
 refine sz0 1 s y fun a s=>l3 (sz0 5 s y fun a s=>?_)
 refine cd s u y (fun u=>?_) fun u=>?_
 ·refine sz0 1 s y fun a s=>?_
  obtain rfl:=oi u
  exact t7 (j4 (rt s y (d.ret y)))
 refine sk (l3 (sz0 3 s y fun a s=>?_))
 refine m6 (u7 (fun g a w=>∃ e,Sl 26 [(0,sl p2 k3 b),(1,sl p6 k7 c),(12,iv (b.length:Int)),(13,iv g)] a∧Wd ⟨w0,S0,[]⟩ e [] [Sq p2 k3 b,Sq p6 k7 c] w) 0 u ⟨S0,wj s d [] [1,0]⟩ ?_)
 repeat clear u
 rintro g a w O ⟨e,s,d⟩ u i
 refine sz0 1 s y fun a s=>l3 (cd s u y (fun u=>?_) fun u=>?_)
 ·refine sk (l3 (m6 (sz0 2 s y fun a s=>?_)))
  refine l3 ?_
  obtain ⟨L,x,u⟩:=bt u
  obtain ⟨k,t,R,P,D,A,B,C,z⟩:=d.elemV 0 y x
  have m:=s
  have o:=d
  subst D
  have s:=m
  have d:=o
  obtain ⟨_,rfl,rfl⟩:=z
  have d:=d.addE C
  obtain ⟨M,E,u⟩:=bt u
  obtain ⟨l,v,S,Q,J,G,H,I,F⟩:=d.elemV 2 y E
  have n:=s
  have q:=d
  subst J
  have s:=n
  have d:=q
  obtain ⟨_,rfl,rfl⟩:=F
  have d:=d.addE I
  refine C7 (fun a w=>∃ f,Sl 26 [(0,sl (some ⟨k,t,none⟩) k3 b),(1,sl (some ⟨l,v,none⟩) k7 c),(12,iv (b.length:Int)),(13,iv g),(24,.bool (L != M))] a∧Wd ⟨w0,S0,[]⟩ f [] [Sq (some ⟨k,t,none⟩) k3 b,Sq (some ⟨l,v,none⟩) k7 c] w) ?_ ?_
  ·refine h_c [] [0,1] d y y (by kernel_rfl) y fun hC d=>gn 2 [0,1] [] s hC y y y fun a s=>gx s 2 y j8 y hC C5 m8 y y A B fun a s=>gv s 3 y y hC (fun w hC=>F5 (j:=0) (hC.ceAt 1 y) y s8 y) fun a s=>gn 2 [4,5] [] s hC y y y fun a s=>gx s 6 y j8 y hC C5 m8 y y G H fun a s=>gv s 7 y y hC (fun w hC=>F5 (j:=0) (hC.ceAt 0 y) y s8 y) fun a s=>gv s 8 y y hC (fun w hC=>y_neq y y) fun a s=>q9 (by kernel_rfl) ?_
   exact ⟨e,wj s d [] [2,3]⟩
  rintro a w ⟨f,s,d⟩
  refine tn (cd s u y (fun u=>?_) fun u=>?_)
  ·refine sz0 1 s y fun a s=>?_
   obtain rfl:=oi u
   have K:=i _ y
   subst K
   exact t7 (o8 (j4 (j4 (o8 (j4 (rt s y (d.ret y)))))))
  refine D1 (l9 (tn (j9 (rz0 2 s y fun a s=>?_))))
  exact ⟨_,io u,f,wj s d [] [0,1]⟩
 obtain ⟨N,u,h⟩:=X5 u
 have h:=(i _ h.symm).symm
 subst h
 refine u0 (j5 (j5 (o9 (tn (sz0 1 s y fun a s=>?_)))))
 obtain rfl:=oi u
 exact q1 s y (d.ret y)
theorem a8H {w0 S0 p2 k3 p6 k7 x1 y5 r} (u:a0o x1 y5=some r) (hS:Dm S0 w0) (h4:(Sq p2 k3 x1.Taps).p S0 w0) (h8:(Sq p6 k7 y5.Taps).p S0 w0):Ck Tryz.prog 169 #[V138 x1 p2 k3,V138 y5 p6 k7] w0 S0 [] o5 r:=by
 refine en 45 func169 y hS y y y fun a s d=>?_
 have d:=(d.addE h4).addE h8
 refine sr (wb (a2k x1 p2 k3) s d y fun b9 a w s d=>?_)
 refine wb (a2k y5 p6 k7) s d y fun f a w s d=>rz0 1 s y fun a s=>sn 6 [1,0] s d y y fun a s=>y7 6 (fun a w1=>w=w1∧Sl 45 [(2,pt b9),(3,pt f),(16,.bool ((x1.Kind == y5.Kind) && ((x1.Num.e0 == y5.Num.e0) && ((x1.Num.e1 == y5.Num.e1) && ((x1.Num.e2 == y5.Num.e2) && true)))))] a) ?_ ?_
 ·rcases j0 (x1.Kind == y5.Kind) with b | b
  ·have s:=s.bT 10 y b
   refine rn 4 [1,0] s d y y fun a s=>D6 s (a0E (by kernel_rfl) y y (a2v u4 m8 (EqA.cons1 s8 y y (G9 q6) (EqA.cons1 s8 y y (G9 q6) (EqA.cons1 s8 y y (G9 q6) EqA.nil))))) ⟨_,y,y⟩ y y fun a s=>rz0 1 s y fun a s=>⟨y,(s.fix 16 (.bool ((x1.Kind == y5.Kind) && ((x1.Num.e0 == y5.Num.e0) && ((x1.Num.e1 == y5.Num.e1) && ((x1.Num.e2 == y5.Num.e2) && true))))) y (a3J b)).weaken _ ⟨y,y,y,j8⟩⟩
  have s:=s.bF 10 y b
  refine rz0 6 s y fun a s=>⟨y,(s.fix 16 (.bool ((x1.Kind == y5.Kind) && ((x1.Num.e0 == y5.Num.e0) && ((x1.Num.e1 == y5.Num.e1) && ((x1.Num.e2 == y5.Num.e2) && true))))) y (a3I b)).weaken _ ⟨y,y,y,j8⟩⟩
 rintro a w1 ⟨m,s⟩
 subst m
 refine mv s y y fun a s=>y7 6 (fun a w1=>w=w1∧Sl 45 [(2,pt b9),(3,pt f),(23,.bool (((x1.Kind == y5.Kind) && ((x1.Num.e0 == y5.Num.e0) && ((x1.Num.e1 == y5.Num.e1) && ((x1.Num.e2 == y5.Num.e2) && true)))) && ((x1.Den.e0 == y5.Den.e0) && ((x1.Den.e1 == y5.Den.e1) && ((x1.Den.e2 == y5.Den.e2) && true)))))] a) ?_ ?_
 ·rcases j0 ((x1.Kind == y5.Kind) && ((x1.Num.e0 == y5.Num.e0) && ((x1.Num.e1 == y5.Num.e1) && ((x1.Num.e2 == y5.Num.e2) && true)))) with c | c
  ·have s:=s.bT 17 y c
   refine rn 4 [1,0] s d y y fun a s=>D6 s (a0E (by kernel_rfl) y y (a2v u4 m8 (EqA.cons1 s8 y y (G9 q6) (EqA.cons1 s8 y y (G9 q6) (EqA.cons1 s8 y y (G9 q6) EqA.nil))))) ⟨_,y,y⟩ y y fun a s=>rz0 1 s y fun a s=>⟨y,(s.fix 23 (.bool (((x1.Kind == y5.Kind) && ((x1.Num.e0 == y5.Num.e0) && ((x1.Num.e1 == y5.Num.e1) && ((x1.Num.e2 == y5.Num.e2) && true)))) && ((x1.Den.e0 == y5.Den.e0) && ((x1.Den.e1 == y5.Den.e1) && ((x1.Den.e2 == y5.Den.e2) && true))))) y (a3J c)).weaken _ ⟨y,y,y,j8⟩⟩
  have s:=s.bF 17 y c
  refine rz0 6 s y fun a s=>⟨y,(s.fix 23 (.bool (((x1.Kind == y5.Kind) && ((x1.Num.e0 == y5.Num.e0) && ((x1.Num.e1 == y5.Num.e1) && ((x1.Num.e2 == y5.Num.e2) && true)))) && ((x1.Den.e0 == y5.Den.e0) && ((x1.Den.e1 == y5.Den.e1) && ((x1.Den.e2 == y5.Den.e2) && true))))) y (a3I c)).weaken _ ⟨y,y,y,j8⟩⟩
 rintro a w1 ⟨l,s⟩
 subst l
 refine mv s y y fun a s=>?_
 obtain ⟨i,h,u⟩:=bt u
 refine y7 6 (fun a w=>∃ g,Sl 45 [(2,pt b9),(3,pt f),(30,.bool i)] a∧Wd ⟨w0,S0,[]⟩ g [.box b9 (a2k x1 p2 k3) 138,.box f (a2k y5 p6 k7) 138] [Sq p2 k3 x1.Taps,Sq p6 k7 y5.Taps] w) ?_ ?_
 ·rcases j0 (((x1.Kind == y5.Kind) && ((x1.Num.e0 == y5.Num.e0) && ((x1.Num.e1 == y5.Num.e1) && ((x1.Num.e2 == y5.Num.e2) && true)))) && ((x1.Den.e0 == y5.Den.e0) && ((x1.Den.e1 == y5.Den.e1) && ((x1.Den.e2 == y5.Den.e2) && true)))) with e | e
  ·have s:=s.bT 24 y e
   have u:=D7 h e
   refine rn 4 [1,0] s d y y fun a s=>?_
   obtain ⟨o,j,u⟩:=bt u
   refine x9 s (a7f j d.bdom (d.bE 1 y) (d.bE 0 y)) (j3 call170 y) ⟨_,y,y⟩ y y ?_
   rintro q n w a k rfl s
   have d:=d.callB k
   refine sv s (I6 y y) y fun a s=>l4 ?_
   obtain rfl:=oi u
   exact tn ⟨S0,wj s d [1,0] [1,0]⟩
  have s:=s.bF 24 y e
  have u:=E8 h e
  refine rn0 6 s y fun a s=>l4 ?_
  obtain rfl:=oi u
  exact tn ⟨S0,wj s d [1,0] [1,0]⟩
 rintro a w ⟨g,s,d⟩
 refine mv s y y fun a s=>rA 6 31 [0,1] s d y y y y y fun a s=>mv s y y fun a s=>rA 6 38 [0,1] s d y y y y y fun a s=>rz0 1 s y fun a s=>?_
 obtain rfl:=oi u
 exact q1 s y (d.ret y)
theorem a8G (S0:Nat→Prop) (w0:World):(a8j Tryz.prog 169 [] [] a0o).p S0 w0:=by
  refine ⟨call169,?_⟩
  rintro S1 w1 hk hS c0 c1 x0 x1 r1 ⟨_,_,_,_,_,_,_,_,_,_,rfl,rfl,rfl,rfl,rfl,rfl,rfl,rfl,⟨_,_,_,rfl,e0⟩,rfl,rfl⟩ h1 hf
  obtain ⟨_,_,_,_,_,_,_,_,_,_,rfl,rfl,rfl,rfl,rfl,rfl,rfl,rfl,⟨_,_,_,rfl,e1⟩,rfl,rfl⟩:=h1
  obtain rfl:=e0.1
  obtain rfl:=e1.1
  exact a8H hf hS e0 e1
theorem a7o {w0 S0 p2 k3 p6 k7 a1 b5 r} (u:a3M a1 b5=some r) (hS:Dm S0 w0) (h4:(Sq p2 k3 a1.Stages).p S0 w0) (h8:(Sq p6 k7 b5.Stages).p S0 w0):Ck Tryz.prog 136 #[.agg #[sl p2 k3 a1.Stages],.agg #[sl p6 k7 b5.Stages]] w0 S0 [] o5 r:=by
 refine en 10 func136 y hS y y y fun a s d=>?_
 have d:=(d.addE h4).addE h8
 refine sr (wb [sl p2 k3 a1.Stages] s d y fun b9 a w s d=>?_)
 refine wb [sl p6 k7 b5.Stages] s d y fun e a w s d=>rz0 1 s y fun a s=>sn 4 [1,0] s d y y fun a s=>?_
 obtain ⟨c,b,u⟩:=bt u
 refine cV s d (Y2 b d.bdom (d.bE 1 y) (d.bE 0 y) (a8G _ _)) (j3 call168 y) y fun a w s d=>rz0 1 s y fun a s=>?_
 obtain rfl:=oi u
 exact q1 s y (d.ret y)
theorem a7G {w0 S0 p2 k3 p6 k7 a1 b5 r} (u:a0v a1 b5=some r) (hS:Dm S0 w0) (h4:(Sq p2 k3 a1.Response.Stages).p S0 w0) (h8:(Sq p6 k7 b5.Response.Stages).p S0 w0):Ck Tryz.prog 125 #[V41 a1 p2 k3,V41 b5 p6 k7] w0 S0 [] o5 r:=by
 refine en 38 func125 y hS y y y fun a s d=>?_
 have d:=(d.addE h4).addE h8
 refine sr (wb (C41 a1 p2 k3) s d y fun b9 a w s d=>?_)
 refine wb (C41 b5 p6 k7) s d y fun h a w s d=>rz0 1 s y fun a s=>sn 6 [1,0] s d y y fun a s=>rA 6 10 [1,0] s d y y y y y fun a s=>mv s y y fun a s=>y7 6 (fun a w1=>w=w1∧Sl 38 [(2,pt b9),(3,pt h),(23,.bool (((a1.From == b5.From) && (a1.To == b5.To)) && ((a1.Rate.Num == b5.Rate.Num) && ((a1.Rate.Den == b5.Rate.Den) && true))))] a) ?_ ?_
 ·rcases j0 ((a1.From == b5.From) && (a1.To == b5.To)) with b | b
  ·have s:=s.bT 17 y b
   refine rn 4 [1,0] s d y y fun a s=>D6 s (a0E (by kernel_rfl) y y (M5 G3 (by kernel_rfl) (EqF.cons1 y s8 y y (G9 q6) (EqF.cons1 y s8 y y (G9 q6) EqF.nil)))) ⟨_,y,y⟩ y y fun a s=>rz0 1 s y fun a s=>⟨y,(s.fix 23 (.bool (((a1.From == b5.From) && (a1.To == b5.To)) && ((a1.Rate.Num == b5.Rate.Num) && ((a1.Rate.Den == b5.Rate.Den) && true)))) y (a3J b)).weaken _ ⟨y,y,y,j8⟩⟩
  have s:=s.bF 17 y b
  refine rz0 6 s y fun a s=>⟨y,(s.fix 23 (.bool (((a1.From == b5.From) && (a1.To == b5.To)) && ((a1.Rate.Num == b5.Rate.Num) && ((a1.Rate.Den == b5.Rate.Den) && true)))) y (a3I b)).weaken _ ⟨y,y,y,j8⟩⟩
 rintro a w1 ⟨m,s⟩
 subst m
 refine mv s y y fun a s=>y7 6 (fun a w1=>w=w1∧Sl 38 [(2,pt b9),(3,pt h),(30,.bool ((((a1.From == b5.From) && (a1.To == b5.To)) && ((a1.Rate.Num == b5.Rate.Num) && ((a1.Rate.Den == b5.Rate.Den) && true))) && ((a1.Position.X == b5.Position.X) && ((a1.Position.Y == b5.Position.Y) && ((a1.Position.Z == b5.Position.Z) && true)))))] a) ?_ ?_
 ·rcases j0 (((a1.From == b5.From) && (a1.To == b5.To)) && ((a1.Rate.Num == b5.Rate.Num) && ((a1.Rate.Den == b5.Rate.Den) && true))) with c | c
  ·have s:=s.bT 24 y c
   refine rn 4 [1,0] s d y y fun a s=>D6 s (a0E (by kernel_rfl) y y (M5 G4 (by kernel_rfl) (EqF.cons1 y s8 y y (G9 q6) (EqF.cons1 y s8 y y (G9 q6) (EqF.cons1 y s8 y y (G9 q6) EqF.nil))))) ⟨_,y,y⟩ y y fun a s=>rz0 1 s y fun a s=>⟨y,(s.fix 30 (.bool ((((a1.From == b5.From) && (a1.To == b5.To)) && ((a1.Rate.Num == b5.Rate.Num) && ((a1.Rate.Den == b5.Rate.Den) && true))) && ((a1.Position.X == b5.Position.X) && ((a1.Position.Y == b5.Position.Y) && ((a1.Position.Z == b5.Position.Z) && true))))) y (a3J c)).weaken _ ⟨y,y,y,j8⟩⟩
  have s:=s.bF 24 y c
  refine rz0 6 s y fun a s=>⟨y,(s.fix 30 (.bool ((((a1.From == b5.From) && (a1.To == b5.To)) && ((a1.Rate.Num == b5.Rate.Num) && ((a1.Rate.Den == b5.Rate.Den) && true))) && ((a1.Position.X == b5.Position.X) && ((a1.Position.Y == b5.Position.Y) && ((a1.Position.Z == b5.Position.Z) && true))))) y (a3I c)).weaken _ ⟨y,y,y,j8⟩⟩
 rintro a w1 ⟨l,s⟩
 subst l
 refine mv s y y fun a s=>?_
 obtain ⟨i,g,u⟩:=bt u
 refine y7 6 (fun a w=>∃ f,Sl 38 [(37,.bool i)] a∧Wd ⟨w0,S0,[]⟩ f [] [] w) ?_ ?_
 ·rcases j0 ((((a1.From == b5.From) && (a1.To == b5.To)) && ((a1.Rate.Num == b5.Rate.Num) && ((a1.Rate.Den == b5.Rate.Den) && true))) && ((a1.Position.X == b5.Position.X) && ((a1.Position.Y == b5.Position.Y) && ((a1.Position.Z == b5.Position.Z) && true)))) with e | e
  ·have s:=s.bT 31 y e
   have u:=D7 g e
   refine rn 4 [1,0] s d y y fun a s=>?_
   obtain ⟨o,j,u⟩:=bt u
   refine x9 s (a7o j d.bdom (d.bE 1 y) (d.bE 0 y)) (j3 call136 y) ⟨_,y,y⟩ y y ?_
   rintro q n w a k rfl s
   have d:=d.callB k
   refine sv s (I6 y y) y fun a s=>l4 ?_
   obtain rfl:=oi u
   exact tn ⟨S0,wj s d [] []⟩
  have s:=s.bF 31 y e
  have u:=E8 g e
  refine rn0 6 s y fun a s=>l4 ?_
  obtain rfl:=oi u
  exact tn ⟨S0,wj s d [] []⟩
 rintro a w ⟨f,s,d⟩
 refine rz0 1 s y fun a s=>?_
 obtain rfl:=oi u
 exact q1 s y (d.ret y)
theorem b1q {w0 S0 p2 k3 e1 r} (u:a5O e1=some r) (hS:Dm S0 w0) (h4:(Sq p2 k3 e1.Response.Stages).p S0 w0):Ck Tryz.prog 87 #[V41 e1 p2 k3] w0 S0 [] o5 r:=by
 refine en 6 func87 y hS y y y fun a s d=>?_
 have d:=d.addE h4
 refine sr (wb (C41 e1 p2 k3) s d y fun b5 a w s d=>?_)
 refine rz0 1 s y fun a s=>sn 1 [0] s d y y fun a s=>sv s (A8 (vs:=[]) Bld41 y y) y fun a s=>?_
 obtain ⟨b,h6,u⟩:=bt u
 have d:=d.addE (e:=SlA (α:=Stage) none 0 0 []) K9
 refine cV s d (a7G h6 d.bdom (d.bE 1 y) (d.bE 0 y)) (j3 call125 y) y fun a w s d=>rz0 1 s y fun a s=>?_
 obtain rfl:=oi u
 exact q1 s y (d.ret y)
theorem b0E {w0 S0 p2 k3 p6 k7 b c5 r} (u:a4T b c5=some r) (hS:Dm S0 w0) (h4:(Sq p2 k3 b.Channels).p S0 w0) (h8:(Sq p6 k7 c5.Epoch.Response.Stages).p S0 w0):Ck Tryz.prog 47 #[.agg #[sl p2 k3 b.Channels],V43 c5 p6 k7] w0 S0 [] o5 r:=by
 refine en 39 func47 y hS y y y fun a s d=>?_
 have d:=(d.addE h4).addE h8
 refine sr (wb [sl p2 k3 b.Channels] s d y fun b9 a w s d=>?_)
 refine wb (C43 c5 p6 k7) s d y fun g a w s d=>rz0 1 s y fun a s=>l3 (sn 1 [1] s d y y fun a s=>?_)
 obtain ⟨j,l,u⟩:=bt u
 refine cV s d (a1U l d.bdom (d.bE 1 y)) (j3 call55 y) y fun a w s d=>rn0 2 s y fun a s=>?_
 obtain ⟨k,f,u⟩:=bt u
 refine y7 5 (fun a w=>∃ e,Sl 39 [(3,pt g),(13,.bool k)] a∧Wd ⟨w0,S0,[]⟩ e [.box g (C43 c5 p6 k7) 43] [Sq p6 k7 c5.Epoch.Response.Stages] w) ?_ ?_
 ·rcases j0 (!j) with c | c
  ·have s:=s.bT 8 y c
   have u:=D7 f c
   refine rn0 5 s y fun a s=>l4 ?_
   obtain rfl:=oi u
   exact tn ⟨S0,wj s d [0] [0]⟩
  have s:=s.bF 8 y c
  have u:=E8 f c
  refine rn 2 [0] s d y y fun a s=>?_
  obtain ⟨x,m,u⟩:=bt u
  refine x9 s (a2t m d.bdom) (j3 call85 y) ⟨_,y,y⟩ y y ?_
  rintro A v w a n rfl s
  have d:=d.callB n
  refine rn0 2 s y fun a s=>l4 ?_
  obtain rfl:=oi u
  exact tn ⟨S0,wj s d [0] [0]⟩
 rintro a w ⟨e,s,d⟩
 refine nl (cd s u y (fun u=>?_) fun u=>?_)
 ·refine sz0 1 s y fun a s=>?_
  obtain rfl:=oi u
  exact t7 (j4 (rt s y (d.ret y)))
 refine sk (l3 (sz 2 [0] s d y y fun a s=>?_))
 refine m6 (sz0 2 s y fun a s=>?_)
 refine cd s u y (fun u=>?_) fun u=>?_
 ·refine sn 2 [0] s d y y fun a s=>?_
  obtain ⟨z,o,u⟩:=bt u
  refine cV s d (V3 o d.bdom (d.bE 0 y)) (j3 call86 y) y fun a w s d=>mv s y y fun a s=>rA 7 21 [0,0] s d y y y y y fun a s=>rz0 1 s y fun a s=>?_
  obtain rfl:=oi u
  exact t7 (o8 (j4 (rt s y (d.ret y))))
 refine sz0 2 s y fun a s=>cd s u y (fun u=>?_) fun u=>?_
 ·refine sn 2 [0] s d y y fun a s=>?_
  obtain ⟨q,h,u⟩:=bt u
  refine cV s d (b1q h d.bdom (d.bE 0 y)) (j3 call87 y) y fun a w s d=>rz0 1 s y fun a s=>?_
  obtain rfl:=oi u
  exact t7 (o8 (j4 (rt s y (d.ret y))))
 refine sz0 2 s y fun a s=>cd s u y (fun u=>?_) fun u=>?_
 ·refine sn 2 [0] s d y y fun a s=>?_
  obtain ⟨t,i,u⟩:=bt u
  refine cV s d (V3 i d.bdom (d.bE 0 y)) (j3 call86 y) y fun a w s d=>rz0 1 s y fun a s=>?_
  obtain rfl:=oi u
  exact t7 (o8 (j4 (rt s y (d.ret y))))
 refine D1 (l9 (tn (sz0 1 s y fun a s=>?_)))
 obtain rfl:=oi u
 exact q1 s y (d.ret y)
abbrev H9 (w0:World) (X:List Nat) (r:(List Channel)):Rd:=fun S w v=>∃ c b a,v=sl c b r∧Outs X w0 S w [.row c r.length b a 73 5]∧(j6 a r).p S w
theorem Y9 {w0 S0 p2 k3 s1 r} (u:O1 s1=some r) (hS:Dm S0 w0) (h4:(Sq p2 k3 s1).p S0 w0):Ck Tryz.prog 88 #[sl p2 k3 s1] w0 S0 [] H9 r:=by
 refine en 8 func88 y hS y y y fun a s d=>?_
 have d:=d.addE h4
 delta O1 at u
 refine sz0 1 s y fun a s=>l3 (sn0 1 s y fun a s=>?_)
 refine sv s (b0g m5 y y) y fun a s=>nl ?_
 have b:=s
 have c:=d
 rcases p2 with _ | i
 ·have s:=b
  have d:=c
  obtain rfl:=b2z (d.envAt 0 y)
  have u:some ([]:List Channel)=some r:=by simpa [T9,maxLen] using u
  refine wp_cond_true (s.ev y) ?_
  refine sz0 1 s y fun a s=>?_
  obtain rfl:=oi u
  have d:=d.nilRow Channel 73
  exact t7 (j4 (rt s y (d.ret ⟨none,0,[],y,(d.outs [0] (by decide) y),(d.envAt 0 y)⟩)))
 have s:=b
 have d:=c
 refine wp_cond_false (s.ev y) ?_
 refine sk (sr (a1j (α:=Channel) (vs:=[]) (cs:=[]) (xs:=([]:List Channel)) s d a8i y y y y y y y y j8 fun p9 a w s d=>?_))
 refine mv s y y fun a s=>?_
 obtain ⟨j,f,u⟩:=bt u
 refine R4 (α:=Channel) s d a8i 0 y y y 0 y 1 y f y j8 ?_
 intro h g e a w s d
 refine rz0 1 s y fun a s=>?_
 obtain rfl:=oi u
 exact q1 s y (d.ret ⟨h,g,e,y,(d.outs [0] (by decide) y),(d.envAt 0 y)⟩)
abbrev J5 (w0:World) (X:List Nat) (r:(List Epoch)):Rd:=fun S w v=>∃ c b a,v=sl c b r∧Outs X w0 S w [.row c r.length b a 41 8]∧(j6 a r).p S w
theorem a3F {w0 S0 p2 k3 s1 r} (u:Q9 s1=some r) (hS:Dm S0 w0) (h4:(Sq p2 k3 s1).p S0 w0):Ck Tryz.prog 126 #[sl p2 k3 s1] w0 S0 [] J5 r:=by
 refine en 8 func126 y hS y y y fun a s d=>?_
 have d:=d.addE h4
 delta Q9 at u
 refine sz0 1 s y fun a s=>l3 (sn0 1 s y fun a s=>?_)
 refine sv s (b0g o4 y y) y fun a s=>nl ?_
 have b:=s
 have c:=d
 rcases p2 with _ | i
 ·have s:=b
  have d:=c
  obtain rfl:=b2z (d.envAt 0 y)
  have u:some ([]:List Epoch)=some r:=by simpa [T9,maxLen] using u
  refine wp_cond_true (s.ev y) ?_
  refine sz0 1 s y fun a s=>?_
  obtain rfl:=oi u
  have d:=d.nilRow Epoch 41
  exact t7 (j4 (rt s y (d.ret ⟨none,0,[],y,(d.outs [0] (by decide) y),(d.envAt 0 y)⟩)))
 have s:=b
 have d:=c
 refine wp_cond_false (s.ev y) ?_
 refine sk (sr (a1j (α:=Epoch) (vs:=[]) (cs:=[]) (xs:=([]:List Epoch)) s d a7k y y y y y y y y j8 fun p9 a w s d=>?_))
 refine mv s y y fun a s=>?_
 obtain ⟨j,f,u⟩:=bt u
 refine R4 (α:=Epoch) s d a7k 0 y y y 0 y 1 y f y j8 ?_
 intro h g e a w s d
 refine rz0 1 s y fun a s=>?_
 obtain rfl:=oi u
 exact q1 s y (d.ret ⟨h,g,e,y,(d.outs [0] (by decide) y),(d.envAt 0 y)⟩)
abbrev a3H (w0:World) (X:List Nat) (r:(List Stage)):Rd:=fun S w v=>∃ c b a,v=sl c b r∧Outs X w0 S w [.row c r.length b a 138 10]∧(j6 a r).p S w
theorem a3G {w0 S0 p2 k3 s1 r} (u:R3 s1=some r) (hS:Dm S0 w0) (h4:(Sq p2 k3 s1).p S0 w0):Ck Tryz.prog 129 #[sl p2 k3 s1] w0 S0 [] a3H r:=by
 refine en 8 func129 y hS y y y fun a s d=>?_
 have d:=d.addE h4
 delta R3 at u
 refine sz0 1 s y fun a s=>l3 (sn0 1 s y fun a s=>?_)
 refine sv s (b0g C4 y y) y fun a s=>nl ?_
 have b:=s
 have c:=d
 rcases p2 with _ | i
 ·have s:=b
  have d:=c
  obtain rfl:=b2z (d.envAt 0 y)
  have u:some ([]:List Stage)=some r:=by simpa [T9,maxLen] using u
  refine wp_cond_true (s.ev y) ?_
  refine sz0 1 s y fun a s=>?_
  obtain rfl:=oi u
  have d:=d.nilRow Stage 138
  exact t7 (j4 (rt s y (d.ret ⟨none,0,[],y,(d.outs [0] (by decide) y),(d.envAt 0 y)⟩)))
 have s:=b
 have d:=c
 refine wp_cond_false (s.ev y) ?_
 refine sk (sr (a1j (α:=Stage) (vs:=[]) (cs:=[]) (xs:=([]:List Stage)) s d El37 y y y y y y y y j8 fun p9 a w s d=>?_))
 refine mv s y y fun a s=>?_
 obtain ⟨j,f,u⟩:=bt u
 refine R4 (α:=Stage) s d El37 0 y y y 0 y 1 y f y j8 ?_
 intro h g e a w s d
 refine rz0 1 s y fun a s=>?_
 obtain rfl:=oi u
 exact q1 s y (d.ret ⟨h,g,e,y,(d.outs [0] (by decide) y),(d.envAt 0 y)⟩)
abbrev a7e (w0:World) (X:List Nat) (r:(List Int)):Rd:=fun S w v=>∃ c b a,v=sl c b r∧Outs X w0 S w [.row c r.length b a 3 1]∧(j6 a r).p S w
theorem a7d {w0 S0 p2 k3 s1 r} (u:a0S s1=some r) (hS:Dm S0 w0) (h4:(Sq p2 k3 s1).p S0 w0):Ck Tryz.prog 130 #[sl p2 k3 s1] w0 S0 [] a7e r:=by
 refine en 8 func130 y hS y y y fun a s d=>?_
 have d:=d.addE h4
 delta a0S at u
 refine sz0 1 s y fun a s=>l3 (sn0 1 s y fun a s=>?_)
 refine sv s (b0g C5 y y) y fun a s=>nl ?_
 have b:=s
 have c:=d
 rcases p2 with _ | i
 ·have s:=b
  have d:=c
  obtain rfl:=b2z (d.envAt 0 y)
  have u:some ([]:List Int)=some r:=by simpa [T9,maxLen] using u
  refine wp_cond_true (s.ev y) ?_
  refine sz0 1 s y fun a s=>?_
  obtain rfl:=oi u
  have d:=d.nilRow Int 3
  exact t7 (j4 (rt s y (d.ret ⟨none,0,[],y,(d.outs [0] (by decide) y),(d.envAt 0 y)⟩)))
 have s:=b
 have d:=c
 refine wp_cond_false (s.ev y) ?_
 refine sk (sr (a1j (α:=Int) (vs:=[]) (cs:=[]) (xs:=([]:List Int)) s d a6U y y y y y y y y j8 fun p9 a w s d=>?_))
 refine mv s y y fun a s=>?_
 obtain ⟨j,f,u⟩:=bt u
 refine R4 (α:=Int) s d a6U 0 y y y 0 y 1 y f y j8 ?_
 intro h g e a w s d
 refine rz0 1 s y fun a s=>?_
 obtain rfl:=oi u
 exact q1 s y (d.ret ⟨h,g,e,y,(d.outs [0] (by decide) y),(d.envAt 0 y)⟩)
abbrev a4D (w0:World) (X:List Nat) (r:Epoch):Rd:=fun S w v=>∃ c b a,v=V41 r c b∧Outs X w0 S w [.row c r.Response.Stages.length b a 138 10]∧(j6 a r.Response.Stages).p S w
theorem a1S {w0 S0 p2 k3 e1 r} (u:Y1 e1=some r) (hS:Dm S0 w0) (h4:(Sq p2 k3 e1.Response.Stages).p S0 w0):Ck Tryz.prog 97 #[V41 e1 p2 k3] w0 S0 [] a4D r:=by
 refine en 33 func97 y hS y y y fun a s d=>?_
 have d:=d.addE h4
 refine sr (wb (C41 e1 p2 k3) s d y fun b5 a w s d=>?_)
 refine wa Z1 s d zeroValue41 fun b6 a w s d=>nl (sn 3 [1] s d y y fun a s=>?_)
 obtain ⟨v,h7,u⟩:=bt u
 refine cR s (a3G h7 d.dom (d.envAt 0 y)) (j3 call129 y) y ?_
 rintro aA O w a ap ⟨p9,N,M,rfl,aq,ao⟩ s
 have d:=(d.callN ap aq).addE (e:=j6 M v) ao
 refine rn0 2 s y fun a s=>ws (C41 ⟨e1.From,e1.To,e1.Rate,e1.Position,⟨v⟩⟩ p9 N) s d 2 y y y L3 fun a w s d=>nl (l3 (sz 5 [2] s d y y fun a s=>?_))
 obtain ⟨q,G,u⟩:=bt u
 refine A7 (fun a w=>∃ o i h B,Sl 33 [(1,pt b5),(2,pt b6)] a∧Wd ⟨w0,S0,[]⟩ B [.box b5 (C41 ⟨e1.From,e1.To,e1.Rate,e1.Position,⟨q⟩⟩ i h) 41,.box b6 Z1 41,.row i q.length h o 138 10] [Sq none 0 ([]:List Stage),j6 o q] w) ?_ ?_
 ·refine m6 ?_
  have d:=d.addE (e:=SlA (α:=Stage) none 0 0 []) K9
  refine u7 (fun g a w=>∃ n t b k,Sl 33 [(1,pt b5),(2,pt b6),(13,iv (v.length:Int)),(14,iv g.2)] a∧Wd ⟨w0,S0,[]⟩ k [.box b5 (C41 ⟨e1.From,e1.To,e1.Rate,e1.Position,⟨g.1⟩⟩ t b) 41,.box b6 Z1 41,.row t g.1.length b n 138 10] [Sq none 0 ([]:List Stage),j6 n g.1] w) (v,0) G ⟨M,p9,N,O,wj s d [2,1,0] [0,1]⟩ ?_
  clear G
  repeat clear u
  rintro g a w au ⟨n,t,b,k,s,d⟩ u K
  refine sz0 1 s y fun a s=>l3 (cd s u y (fun u=>?_) fun u=>?_)
  ·refine sk (l3 (m6 (sz0 2 s y fun a s=>?_)))
   obtain ⟨am,Q,u⟩:=bt u
   obtain ⟨x,ak,av,V,S,T,U,R⟩:=d.elemRV (α:=Stage) 2 y 1 y Q
   have H:=s
   have I:=d
   subst V
   have s:=H
   have d:=I
   obtain ⟨_,_,_,_,_,_,_,_,_,_,rfl,rfl,rfl,rfl,rfl,rfl,rfl,rfl,⟨ai,n219,ag,rfl,C⟩,rfl,rfl⟩:=R
   obtain rfl:=C.1
   have d:=d.addE (e:=SlA ai _ ag am.Taps) C
   obtain ⟨L,W,u⟩:=bt u
   obtain ⟨an,Y,u⟩:=bt u
   obtain ⟨al,aw,aa,D,ab,Z⟩:=d.elemRK (α:=Stage) 2 y 2 y Y
   obtain ⟨_,_,_,_,_,_,_,_,_,_,rfl,rfl,rfl,rfl,rfl,rfl,rfl,rfl,⟨aj,n238,ah,rfl,E⟩,rfl,rfl⟩:=Z
   obtain rfl:=E.1
   have d:=d.addE (e:=SlA aj _ ah an.Taps) E
   obtain ⟨A,F,u⟩:=bt u
   refine C7 (fun a w=>∃ l c,Sl 33 [(1,pt b5),(2,pt b6),(13,iv (v.length:Int)),(14,iv g.2)] a∧Wd ⟨w0,S0,[]⟩ l [.box b5 (C41 ⟨e1.From,e1.To,e1.Rate,e1.Position,⟨A⟩⟩ (ad x) b) 41,.box b6 Z1 41,.row (ad x) A.length b c 138 10] [Sq none 0 ([]:List Stage),j6 c A] w) ?_ ?_
   ·refine h_c [0,1] [] d y y (by kernel_rfl) y fun hC d=>gn 8 [0,1,2,3,4,5,6,7] [0,0] s hC y y y fun a s=>gx s 8 y j8 y hC C4 C0 y y S T fun a s=>gv s 9 y y hC (fun w hC=>l7 (o':=ak+7) y6 y E6 y y y) fun a s=>ho 10 y ?_
    refine sv s (H5 (j:=7) (d.ownAt 2 y) y N2 U y) y fun a s=>h_n [0,1] [] d y y fun hC=>ho 11 y ?_
    refine cR s (a7d W d.dom (d.envAt 1 y)) (j3 call130 y) y ?_
    rintro az ar w a ac ⟨ay,ax,P,rfl,ae,X⟩ s
    have d:=(d.callN ac ae).addE (e:=j6 P L) X
    refine h_n [1,2] [] d y y fun hC=>gx s 12 y j8 y hC C4 C0 y y aa D fun a s=>gv s 13 y y hC (fun w hC=>l7 (o':=al+7) y6 y E6 y y y) fun a s=>ho 14 y ?_
    obtain ⟨J,d⟩:=C8 (α:=Int) d 0 y 0 y
    refine a6G (α:=Stage) (f:=7) (m:=1) s d 2 rfl 5 rfl D rfl rfl E6 rfl rfl rfl F (fun es he=>by rw [ab] at he;subst he;exact ⟨_,_,_,_,_,_,_,_,_,_,rfl,rfl,rfl,rfl,rfl,rfl,rfl,rfl,⟨_,_,_,rfl,d.envAt 0 rfl⟩,rfl,rfl⟩) j8 ?_
    intro c a w s d
    have z:=Y8 F
    try have s:=s.fl 19 rfl z
    try have s:=s.fl 23 rfl z
    refine h_n [0,1] [] d y y fun hC=>q9 (by kernel_rfl) ?_
    have d:=d.fixB 0 7 y y z
    exact ⟨J,c,wj s d [0,1,2] [5,0]⟩
   rintro a w ⟨l,c,s,d⟩
   refine l9 (tn (j9 (rz0 2 s y fun a s=>?_)))
   exact ⟨_,io u,c,(ad x),b,l,wj s d [0,1,2] [0,1]⟩
  refine u0 (j5 (j5 (o9 ?_)))
  obtain rfl:=oi u
  have af:=K _ y
  subst af
  exact tn ⟨n,t,b,k,wj s d [0,1,2] [0,1]⟩
 rintro a w ⟨o,i,h,B,s,d⟩
 refine tn (sn 1 [0] s d y y fun a s=>?_)
 refine ws (C41 ⟨e1.From,e1.To,e1.Rate,e1.Position,⟨q⟩⟩ i h) s d 1 y y y t6 fun a w s d=>nl ?_
 obtain rfl:=oi u
 exact t7 (a7p s y (D8 d 1 y y E3 t6 y) (d.ret ⟨i,h,o,y,(d.outs [2] (by decide) y),(d.envAt 1 y)⟩))
abbrev a9l (w0:World) (X:List Nat) (r:Channel):Rd:=fun S w v=>∃ c b a,v=V73 r c b∧Outs X w0 S w [.row c r.Epochs.length b a 41 8]∧(j6 a r.Epochs).p S w
theorem a3B {w0 S0 p2 k3 c1 r} (u:a1D c1=some r) (hS:Dm S0 w0) (h4:(Sq p2 k3 c1.Epochs).p S0 w0):Ck Tryz.prog 89 #[V73 c1 p2 k3] w0 S0 [] a9l r:=by
 refine en 25 func89 y hS y y y fun a s d=>?_
 have d:=d.addE h4
 refine sr (wb (C73 c1 p2 k3) s d y fun b5 a w s d=>?_)
 refine wa Z2 s d zeroValue73 fun b6 a w s d=>nl (sn 2 [1] s d y y fun a s=>?_)
 obtain ⟨v,h7,u⟩:=bt u
 refine cR s (a3F h7 d.dom (d.envAt 0 y)) (j3 call126 y) y ?_
 rintro aA Q w a ak ⟨p9,P,O,rfl,al,aj⟩ s
 have d:=(d.callN ak al).addE (e:=j6 O v) aj
 refine sv s (l7 (o':=4) u9 y D2 y y y) y fun a s=>ws (C73 ⟨c1.Source,v⟩ p9 P) s d 2 y y y D2 fun a w s d=>nl (l3 (sz 4 [2] s d y y fun a s=>?_))
 obtain ⟨q,F,u⟩:=bt u
 refine A7 (fun a w=>∃ o i g z,Sl 25 [(1,pt b5),(2,pt b6)] a∧Wd ⟨w0,S0,[]⟩ z [.box b5 (C73 ⟨c1.Source,q⟩ i g) 73,.box b6 Z2 73,.row i q.length g o 41 8] [Sq none 0 ([]:List Epoch),j6 o q] w) ?_ ?_
 ·refine m6 ?_
  have d:=d.addE (e:=SlA (α:=Epoch) none 0 0 []) K9
  refine u7 (fun c a w=>∃ n h b k,Sl 25 [(1,pt b5),(2,pt b6),(10,sl h b c.1),(11,iv (v.length:Int)),(12,iv c.2)] a∧Wd ⟨w0,S0,[]⟩ k [.box b5 (C73 ⟨c1.Source,c.1⟩ h b) 73,.box b6 Z2 73,.row h c.1.length b n 41 8] [Sq none 0 ([]:List Epoch),j6 n c.1] w) (v,0) F ⟨O,p9,P,Q,wj s d [2,1,0] [0,1]⟩ ?_
  clear F
  repeat clear u
  rintro c a w an ⟨n,h,b,k,s,d⟩ u M
  refine sz0 1 s y fun a s=>l3 (cd s u y (fun u=>?_) fun u=>?_)
  ·refine sk (l3 (m6 (sn0 1 s y fun a s=>?_)))
   obtain ⟨K,S,u⟩:=bt u
   obtain ⟨m,ax,ap,W,A,U,V,T⟩:=d.elemRV (α:=Epoch) 2 y 1 y S
   have G:=s
   have H:=d
   subst W
   have s:=G
   have d:=H
   obtain ⟨_,_,_,_,_,_,_,_,rfl,rfl,rfl,rfl,rfl,rfl,rfl,rfl,⟨J,n223,I,rfl,B⟩⟩:=T
   obtain rfl:=B.1
   have d:=d.addE (e:=SlA J _ I K.Response.Stages) B
   refine sv s (o7 o4 t6 y y A.1 A.2 U) y fun a s=>sv s (I4 (j:=0) (d.ownAt 2 y) y E3 t6 V y y) y fun a s=>wa Z1 s d zeroValue41 fun ao a w s d=>av s y y fun a s=>ws (C41 K J I) s d 0 y y y t6 fun a w s d=>nl ?_
   obtain ⟨N,X,u⟩:=bt u
   obtain ⟨ai,Z,u⟩:=bt u
   obtain ⟨ay,aq,ab,C,ar,aa⟩:=d.elemRK (α:=Epoch) 3 y 2 y Z
   obtain ⟨_,_,_,_,_,_,_,_,rfl,rfl,rfl,rfl,rfl,rfl,rfl,rfl,⟨ah,n243,ag,rfl,D⟩⟩:=aa
   obtain rfl:=D.1
   have d:=d.addE (e:=SlA ah _ ag ai.Response.Stages) D
   obtain ⟨t,E,u⟩:=bt u
   refine C7 (fun a w=>∃ l f,Sl 25 [(1,pt b5),(2,pt b6),(10,sl (ad m) b t),(11,iv (v.length:Int)),(12,iv c.2)] a∧Wd ⟨w0,S0,[]⟩ l [.box b5 (C73 ⟨c1.Source,t⟩ (ad m) b) 73,.box b6 Z2 73,.row (ad m) t.length b f 41 8] [Sq none 0 ([]:List Epoch),j6 f t] w) ?_ ?_
   ·refine h_c [0,1,2] [] d y y (by kernel_rfl) y fun hC d=>gn 4 [0,1,2,3] [1,0] s hC y y y fun a s=>ho 4 y ?_
    refine cR s (a1S X d.dom (d.envAt 1 y)) (j3 call97 y) y ?_
    rintro az am w a ac ⟨aw,au,R,rfl,ae,Y⟩ s
    have d:=(d.callN ac ae).addE (e:=j6 R N.Response.Stages) Y
    refine h_n [1,2,3] [] d y y fun hC=>gx s 5 y j8 y hC o4 t6 y y ab C fun a s=>ho 6 y ?_
    obtain ⟨L,d⟩:=C8 (α:=Stage) d 0 y 0 y
    refine a5d (α:=Epoch) s d 3 y 5 y C y y t6 y E ⟨_,_,_,_,_,_,_,_,y,y,y,y,y,y,y,y,⟨_,_,_,y,d.envAt 0 y⟩⟩ j8 ?_
    intro f a w s d
    have x:=Y8 E
    try have s:=s.fl 10 rfl x
    try have s:=s.fl 18 rfl x
    refine h_n [0,1,2] [] d y y fun hC=>q9 (by kernel_rfl) ?_
    have d:=d.fixB 1 4 y y x
    exact ⟨L,f,wj s d [1,2,3] [5,0]⟩
   rintro a w ⟨l,f,s,d⟩
   refine l9 (tn (j9 (rz0 2 s y fun a s=>?_)))
   exact ⟨_,io u,f,(ad m),b,l,wj s d [0,1,2] [0,1]⟩
  refine u0 (j5 (j5 (o9 ?_)))
  obtain rfl:=oi u
  have af:=M _ y
  subst af
  exact tn ⟨n,h,b,k,wj s d [0,1,2] [0,1]⟩
 rintro a w ⟨o,i,g,z,s,d⟩
 refine tn (sn 1 [0] s d y y fun a s=>?_)
 refine ws (C73 ⟨c1.Source,q⟩ i g) s d 1 y y y o3 fun a w s d=>nl ?_
 obtain rfl:=oi u
 exact t7 (a7p s y (D8 d 1 y y F2 o3 y) (d.ret ⟨i,g,o,y,(d.outs [2] (by decide) y),(d.envAt 1 y)⟩))
abbrev a6L (w0:World) (X:List Nat) (r:Inventory):Rd:=fun S w v=>∃ c b a,v=.agg #[sl c b r.Channels]∧Outs X w0 S w [.row c r.Channels.length b a 73 5]∧(j6 a r.Channels).p S w
abbrev E48_0:List Value:=[.slice none ([]:List Channel).length 0]
theorem a6K {w0 S0 p2 k3 t r} (u:a0K t=some r) (hS:Dm S0 w0) (h4:(Sq p2 k3 t.Channels).p S0 w0):Ck Tryz.prog 48 #[.agg #[sl p2 k3 t.Channels]] w0 S0 [] a6L r:=by
 refine en 25 func48 y hS y y y fun a s d=>?_
 have d:=d.addE h4
 refine sr (wb [sl p2 k3 t.Channels] s d y fun b5 a w s d=>?_)
 refine wa E48_0 s d zeroValue29 fun b6 a w s d=>nl (sn 2 [1] s d y y fun a s=>?_)
 obtain ⟨x,h7,u⟩:=bt u
 refine cR s (Y9 h7 d.dom (d.envAt 0 y)) (j3 call88 y) y ?_
 rintro aB R w a al ⟨p9,Q,P,rfl,am,ak⟩ s
 have d:=(d.callN al am).addE (e:=j6 P x) ak
 refine sv s (l7 (o':=0) D3 y E4 y y y) y fun a s=>ws [sl p9 Q x] s d 2 y y y E4 fun a w s d=>nl (l3 (sz 4 [2] s d y y fun a s=>?_))
 obtain ⟨q,G,u⟩:=bt u
 refine A7 (fun a w=>∃ o i g A,Sl 25 [(1,pt b5),(2,pt b6)] a∧Wd ⟨w0,S0,[]⟩ A [.box b5 [sl i g q] 29,.box b6 E48_0 29,.row i q.length g o 73 5] [Sq none 0 ([]:List Channel),j6 o q] w) ?_ ?_
 ·refine m6 ?_
  have d:=d.addE (e:=SlA (α:=Channel) none 0 0 []) K9
  refine u7 (fun c a w=>∃ n h b k,Sl 25 [(1,pt b5),(2,pt b6),(10,sl h b c.1),(11,iv (x.length:Int)),(12,iv c.2)] a∧Wd ⟨w0,S0,[]⟩ k [.box b5 [sl h b c.1] 29,.box b6 E48_0 29,.row h c.1.length b n 73 5] [Sq none 0 ([]:List Channel),j6 n c.1] w) (x,0) G ⟨P,p9,Q,R,wj s d [2,1,0] [0,1]⟩ ?_
  clear G
  repeat clear u
  rintro c a w ao ⟨n,h,b,k,s,d⟩ u N
  refine sz0 1 s y fun a s=>l3 (cd s u y (fun u=>?_) fun u=>?_)
  ·refine sk (l3 (m6 (sn0 1 s y fun a s=>?_)))
   obtain ⟨L,T,u⟩:=bt u
   obtain ⟨m,ay,aq,X,B,V,W,U⟩:=d.elemRV (α:=Channel) 2 y 1 y T
   have H:=s
   have I:=d
   subst X
   have s:=H
   have d:=I
   obtain ⟨_,_,_,_,_,rfl,rfl,rfl,rfl,rfl,⟨K,n223,J,rfl,C⟩⟩:=U
   obtain rfl:=C.1
   have d:=d.addE (e:=SlA K _ J L.Epochs) C
   refine sv s (o7 m5 o3 y y B.1 B.2 V) y fun a s=>sv s (I4 (j:=0) (d.ownAt 2 y) y F2 o3 W y y) y fun a s=>wa Z2 s d zeroValue73 fun ap a w s d=>av s y y fun a s=>ws (C73 L K J) s d 0 y y y o3 fun a w s d=>nl ?_
   obtain ⟨O,Y,u⟩:=bt u
   obtain ⟨aj,aa,u⟩:=bt u
   obtain ⟨az,ar,ac,D,au,ab⟩:=d.elemRK (α:=Channel) 3 y 2 y aa
   obtain ⟨_,_,_,_,_,rfl,rfl,rfl,rfl,rfl,⟨ai,n243,ah,rfl,E⟩⟩:=ab
   obtain rfl:=E.1
   have d:=d.addE (e:=SlA ai _ ah aj.Epochs) E
   obtain ⟨v,F,u⟩:=bt u
   refine C7 (fun a w=>∃ l f,Sl 25 [(1,pt b5),(2,pt b6),(10,sl (ad m) b v),(11,iv (x.length:Int)),(12,iv c.2)] a∧Wd ⟨w0,S0,[]⟩ l [.box b5 [sl (ad m) b v] 29,.box b6 E48_0 29,.row (ad m) v.length b f 73 5] [Sq none 0 ([]:List Channel),j6 f v] w) ?_ ?_
   ·refine h_c [0,1,2] [] d y y (by kernel_rfl) y fun hC d=>gn 4 [0,1,2,3] [1,0] s hC y y y fun a s=>ho 4 y ?_
    refine cR s (a3B Y d.dom (d.envAt 1 y)) (j3 call89 y) y ?_
    rintro aA an w a ae ⟨ax,aw,S,rfl,af,Z⟩ s
    have d:=(d.callN ae af).addE (e:=j6 S O.Epochs) Z
    refine h_n [1,2,3] [] d y y fun hC=>gx s 5 y j8 y hC m5 o3 y y ac D fun a s=>ho 6 y ?_
    obtain ⟨M,d⟩:=C8 (α:=Epoch) d 0 y 0 y
    refine a5d (α:=Channel) s d 3 y 5 y D y y o3 y F ⟨_,_,_,_,_,y,y,y,y,y,⟨_,_,_,y,d.envAt 0 y⟩⟩ j8 ?_
    intro f a w s d
    have z:=Y8 F
    try have s:=s.fl 10 rfl z
    try have s:=s.fl 18 rfl z
    refine h_n [0,1,2] [] d y y fun hC=>q9 (by kernel_rfl) ?_
    have d:=d.fixB 1 0 y y z
    exact ⟨M,f,wj s d [1,2,3] [5,0]⟩
   rintro a w ⟨l,f,s,d⟩
   refine l9 (tn (j9 (rz0 2 s y fun a s=>?_)))
   exact ⟨_,io u,f,(ad m),b,l,wj s d [0,1,2] [0,1]⟩
  refine u0 (j5 (j5 (o9 ?_)))
  obtain rfl:=oi u
  have ag:=N _ y
  subst ag
  exact tn ⟨n,h,b,k,wj s d [0,1,2] [0,1]⟩
 rintro a w ⟨o,i,g,A,s,d⟩
 refine tn (sn 1 [0] s d y y fun a s=>?_)
 refine ws [sl i g q] s d 1 y y y s9 fun a w s d=>nl ?_
 obtain rfl:=oi u
 exact t7 (a7p s y (D8 d 1 y y D4 s9 y) (d.ret ⟨i,g,o,y,(d.outs [2] (by decide) y),(d.envAt 1 y)⟩))
abbrev a9I (w0:World) (X:List Nat) (r:Inventory):Rd:=fun S w v=>∃ c b a,v=.agg #[sl c b r.Channels]∧Outs X w0 S w [.row c r.Channels.length b a 73 5]∧(j6 a r.Channels).p S w∧(UqA w0.heap.size a r.Channels).p S w
theorem a9H {w0 S0 p2 k3 A r} (u:a0K A=some r) (hS:Dm S0 w0) (h4:(Sq p2 k3 A.Channels).p S0 w0):Ck Tryz.prog 48 #[.agg #[sl p2 k3 A.Channels]] w0 S0 [] a9I r:=by
 refine en 25 func48 y hS y y y fun a s d=>?_
 have d:=d.addE h4
 refine sr (wb [sl p2 k3 A.Channels] s d y fun b5 a w s d=>?_)
 refine wa [.slice none ([]:List Channel).length 0] s d zeroValue29 fun b6 a w s d=>nl (sn 2 [1] s d y y fun a s=>?_)
 obtain ⟨o,h7,u⟩:=bt u
 refine cR s (Y9 h7 d.dom (d.envAt 0 y)) (j3 call88 y) y ?_
 rintro aw S w a ag ⟨p9,R,Q,rfl,ah,af⟩ s
 have d:=(d.callN ag ah).addE (e:=j6 Q o) af
 refine sv s (l7 (o':=0) D3 y E4 y y y) y fun a s=>ws [sl p9 R o] s d 2 y y y E4 fun a w s d=>nl (l3 (sz 4 [2] s d y y fun a s=>?_))
 obtain ⟨h,I,u⟩:=bt u
 obtain ⟨ai,d⟩:=d.toCp 0 y
 have hmx:=(b4V (d.ownAt 0 y)).2
 refine A7 (fun a w=>∃ z m k F tail rs n,(Sl 25 [(1,pt b5),(2,pt b6)] a∧Wd ⟨w0,S0,[]⟩ F (.box b5 [sl m k h] 29 :: .box b6 [.slice none ([]:List Channel).length 0] 29 :: .row m h.length k z 73 5 :: tail) [j6 z rs,CpA rs h tail n] w)∧n=h.length) ?_ ?_
 ·refine m6 ?_
  refine u7 (fun b a w=>∃ x l c q tail rs,(Sl 25 [(1,pt b5),(2,pt b6),(10,sl l c b.1),(11,iv (o.length:Int)),(12,iv b.2)] a∧Wd ⟨w0,S0,[]⟩ q (.box b5 [sl l c b.1] 29 :: .box b6 [.slice none ([]:List Channel).length 0] 29 :: .row l b.1.length c x 73 5 :: tail) [j6 x rs,CpA rs b.1 tail b.2.toNat] w)∧b.1.length=o.length∧0≤b.2∧b.2≤(o.length:Int)) (o,0) I ⟨Q,p9,R,S,[],ai,wj s d [2,1,0] [0,1],y,Int.le_refl _,by simp⟩ ?_
  clear I
  repeat clear u
  rintro b a w ak ⟨x,l,c,q,tail,rs,⟨s,d⟩,hlen,ar,au⟩ u O
  refine sz0 1 s y fun a s=>l3 ?_
  refine wp_cond_split (s.ev y) (fun hb=>?_) (fun hb=>?_)
  ·have u:=D7 u hb
   refine sk (l3 (m6 (sn0 1 s y fun a s=>?_)))
   obtain ⟨f,G,u⟩:=bt u
   obtain ⟨v,ap,am,W,C,D,V,U⟩:=d.elemCp 2 y 0 y 1 y (Nat.le_refl _) G
   have J:=s
   have L:=d
   subst W
   have s:=J
   have d:=L
   obtain ⟨_,_,_,_,_,rfl,rfl,rfl,rfl,rfl,⟨N,n222,M,rfl,H⟩⟩:=U
   obtain rfl:=H.1
   have d:=d.addE (e:=SlA N _ M f.Epochs) H
   refine sv s (o7 m5 o3 y y C.1 C.2 D) y fun a s=>sv s (I4 (j:=0) (d.ownAt 2 y) y F2 o3 V y y) y fun a s=>wa [.string ByteArray.empty,.string ByteArray.empty,.string ByteArray.empty,.string ByteArray.empty,.slice none ([]:List Epoch).length 0] s d zeroValue73 fun al a w s d=>av s y y fun a s=>ws [.string f.Source.Network,.string f.Source.Station,.string f.Source.Location,.string f.Source.Channel,.slice N f.Epochs.length M] s d 0 y y y o3 fun a w s d=>nl ?_
   obtain ⟨P,X,u⟩:=bt u
   obtain ⟨ae,Z,u⟩:=bt u
   obtain rfl:f=ae:=Option.some.inj (G.symm.trans Z)
   obtain ⟨B,i,u⟩:=bt u
   refine C7 (fun a w=>∃ t g tail rs,Sl 25 [(1,pt b5),(2,pt b6),(10,sl (ad v) c B),(11,iv (o.length:Int)),(12,iv b.2)] a∧Wd ⟨w0,S0,[]⟩ t (.box b5 [sl (ad v) c B] 29 :: .box b6 [.slice none ([]:List Channel).length 0] 29 :: .row (ad v) B.length c g 73 5 :: tail) [j6 g rs,CpA rs B tail (b.2.toNat+1)] w) ?_ ?_
   ·refine h_c [0,1,2] [] d y y (by kernel_rfl) y fun hC d=>gn 4 [0,1,2,3] [1,0] s hC y y y fun a s=>ho 4 y ?_
    refine cR s (a3B X d.dom (d.envAt 0 y)) (j3 call89 y) y ?_
    rintro aq aj w a aa ⟨ao,an,T,rfl,ab,Y⟩ s
    have d:=(d.callN aa ab).addE (e:=j6 T P.Epochs) Y
    refine h_n [1,2,3] [] d y y fun hC=>gx s 5 y j8 y hC m5 o3 y y C D fun a s=>ho 6 y ?_
    refine b7e s d 0 y 2 y 3 y y D y y o3 i j8 fun g rs' a w s d=>?_
    have E:=Y8 i
    have s:=s.fl 10 y E
    have s:=s.fl 18 y E
    refine h_n [0,1,2] [] d y y fun hC=>q9 (by kernel_rfl) ?_
    have d:=(d.dropR 0).fixB 0 0 y y E
    exact ⟨_,g,_,rs',s.wk y,d.setE _ (a5f.of [0,1] y)⟩
   rintro a w ⟨t,g,tail,rs,s,d⟩
   refine l9 (tn (j9 (rz0 2 s y fun a s=>?_)))
   have hbd:=(b2y i).1
   have K:w64 (b.2+1)=b.2+1:=w64_inD (by omega) (by have:=(b4V (d.ownAt 2 rfl));simp only [maxLen] at this;have:=Y8 i;omega)
   rw [show b.2.toNat+1=(w64 (b.2+1)).toNat by rw [K];omega] at d
   exact ⟨_,io u,g,(ad v),c,t,tail,rs,⟨s.wk rfl,d⟩,(Y8 i).trans hlen,by show 0≤w64 (b.2+1);rw [K];omega,by show w64 (b.2+1)≤_;rw [K];omega⟩
  have u:=E8 u hb
  refine u0 (j5 (j5 (o9 ?_)))
  obtain rfl:=oi u
  have ac:=O _ y
  subst ac
  exact tn ⟨x,l,c,q,tail,rs,b.2.toNat,⟨s.wk rfl,d⟩,by simp only [decide_eq_false_iff_not] at hb;omega⟩
 rintro a w ⟨z,m,k,F,tail,rs,n,⟨s,d⟩,hn⟩
 obtain ⟨Sf,d⟩:=d.uq_of y 0 y 1 y hn
 refine tn (sn 1 [0] s d y y fun a s=>?_)
 refine ws [sl m k h] s d 1 y y y s9 fun a w s d=>nl ?_
 obtain rfl:=oi u
 exact t7 (a7p s y (D8 d 1 y y D4 s9 y) (d.ret ⟨m,k,z,y,(d.outs [2] (by decide) y),(d.envAt 1 y),(d.envAt 0 y)⟩))
abbrev L9 (w0:World) (X:List Nat) (r:(Int × Bool)):Rd:=fun S w v=>v=.tuple #[iv r.1,.bool r.2]
theorem X4 {w0 S0 p2 k3 g7 f8 c x1 b} {cmp6:Channel→SourceID→Option Int} {r} (u:H6 x1 b cmp6=some r) (hS:Dm S0 w0) (h4:(Sq p2 k3 x1).p S0 w0) (ap:(a8j Tryz.prog g7 f8 c cmp6).p S0 w0):Ck Tryz.prog 90 #[sl p2 k3 x1,V32 b,.func (.func g7) f8.toArray c.toArray] w0 S0 [] L9 r:=by
 refine en 49 func90 y hS y y y fun a s d=>?_
 have d:=(d.addE h4).addE ap
 refine sr (wb (C32 b) s d y fun g a w s d=>?_)
 refine rz0 2 s y fun a s=>sn0 2 s y fun a s=>?_
 obtain ⟨n13,aq,u⟩:=bt u
 refine sv s (w9 y aq) y fun a s=>nl (sz0 3 s y fun a s=>?_)
 refine l3 ?_
 obtain ⟨t,E,u⟩:=bt u
 refine A7 (fun a w=>∃ h,Sl 49 [(0,sl p2 k3 x1),(2,.func (.func g7) f8.toArray c.toArray),(4,pt g),(8,iv n13),(9,iv t)] a∧Wd ⟨w0,S0,[]⟩ h [.box g (C32 b) 32] [Sq p2 k3 x1,a8j Tryz.prog g7 f8 c cmp6] w) ?_ ?_
 ·refine m6 (u7 (fun f a w=>∃ n,Sl 49 [(0,sl p2 k3 x1),(2,.func (.func g7) f8.toArray c.toArray),(4,pt g),(8,iv n13),(9,iv f.1),(10,iv f.2)] a∧Wd ⟨w0,S0,[]⟩ n [.box g (C32 b) 32] [Sq p2 k3 x1,a8j Tryz.prog g7 f8 c cmp6] w) (0,n13) E ⟨S0,wj s d [0] [1,0]⟩ ?_)
  clear E
  repeat clear u
  rintro f a w L ⟨n,s,d⟩ u J
  refine l3 (sz0 3 s y fun a s=>?_)
  refine cd s u y (fun u=>?_) fun u=>?_
  ·refine sk (m6 (sn0 3 s y fun a s=>?_))
   refine sv s (b3z q6 runUnderlying165 y) y fun a s=>?_
   obtain ⟨ar,N,u⟩:=bt u
   refine sv s (y_shrM y y N) y fun a s=>sv s (b3z runUnderlying165 q6 y) y fun a s=>?_
   obtain ⟨B,O,u⟩:=bt u
   refine sv s (w9 y O) y fun a s=>nl (l3 ?_)
   obtain ⟨an,P,u⟩:=bt u
   obtain ⟨o,q,aB,ay,U,R,S,T,Q⟩:=d.elemV 0 y P
   have F:=s
   have H:=d
   subst U
   have s:=F
   have d:=H
   obtain ⟨_,_,_,_,_,rfl,rfl,rfl,rfl,rfl,⟨al,n165,aj,rfl,C⟩⟩:=Q
   obtain rfl:=C.1
   have d:=(d.addE (e:=SlA al _ aj an.Epochs) C).addE T
   obtain ⟨K,V,u⟩:=bt u
   refine C7 (fun a w=>∃ i,Sl 49 [(0,sl (some ⟨o,q,none⟩) k3 x1),(2,.func (.func g7) f8.toArray c.toArray),(4,pt g),(8,iv n13),(9,iv f.1),(10,iv f.2),(11,iv B),(31,.bool (decide (K<0)))] a∧Wd ⟨w0,S0,[]⟩ i [.box g (C32 b) 32] [Sq (some ⟨o,q,none⟩) k3 x1,a8j Tryz.prog g7 f8 c cmp6] w) ?_ ?_
   ·refine h_c [0] [0] d y y (by kernel_rfl) y fun hC d=>gn 3 [0,1,2] [] s hC y y y fun a s=>gx s 3 y j8 y hC m5 o3 y y R S fun a s=>gv s 4 y y hC (fun w hC=>D5 (j:=0) (hC.ceAt 0 y) y F2 o3 y y) fun a s=>gv s 5 y y hC (fun w hC=>Y0 (hC.ownAt 0 y) y B9 s6 y y) fun a s=>ho 6 y ?_
    refine x9 s ((d.bE 3 y).2 a2O.rfl' d.bdom ⟨_,_,_,_,_,y,y,y,y,y,⟨_,_,_,y,d.bE 1 y⟩⟩ ⟨_,_,_,_,y,y,y,y,y⟩ V) (a4A (d.bE 3 y).1 y y) j8 y y ?_
    rintro aD au w a W rfl s
    have d:=d.callB W
    refine h_n [0] [0] d y y fun hC=>gv s 7 y y hC (fun w hC=>b1G y y) fun a s=>q9 (by kernel_rfl) ?_
    exact ⟨n,wj s d [0] [2,3]⟩
   rintro a w ⟨i,s,d⟩
   refine tn (A7 (fun a w=>∃ (v:Int) (x:Int) (m:_),G6 v x=some L∧Sl 49 [(0,sl (some ⟨o,q,none⟩) k3 x1),(2,.func (.func g7) f8.toArray c.toArray),(4,pt g),(8,iv n13),(9,iv v),(10,iv x)] a∧Wd ⟨w0,S0,[]⟩ m [.box g (C32 b) 32] [Sq (some ⟨o,q,none⟩) k3 x1,a8j Tryz.prog g7 f8 c cmp6] w) ?_ ?_)
   ·refine cd s u y (fun u=>?_) fun u=>?_
    ·refine j9 (rn0 2 s y fun a s=>?_)
     obtain ⟨ai,X,u⟩:=bt u
     refine sv s (w9 y X) y fun a s=>nl ⟨ai,f.2,i,u,wj s d [0] [0,1]⟩
    refine j9 (rz0 2 s y fun a s=>?_)
    exact ⟨f.1,B,i,u,wj s d [0] [0,1]⟩
   rintro a w ⟨v,x,m,u,s,d⟩
   exact l9 (tn ⟨_,io u,m,wj s d [0] [0,1]⟩)
  refine u0 (j5 (j5 (o9 ?_)))
  obtain rfl:=oi u
  have Y:=J _ y
  subst Y
  exact tn ⟨n,wj s d [0] [0,1]⟩
 rintro a w ⟨h,s,d⟩
 refine tn (l3 ?_)
 obtain ⟨M,A,u⟩:=bt u
 refine C7 (fun a w=>∃ z,Sl 49 [(6,iv t),(7,.bool M)] a∧Wd ⟨w0,S0,[]⟩ z [] [] w) ?_ ?_
 ·rcases j0 (decide (t<n13)) with k | k
  ·have l:=D7 A k
   obtain ⟨ao,Z,l⟩:=K3 l
   obtain ⟨ax,aA,aC,az,ae,ab,ac,ad,aa⟩:=d.elemV 0 y Z
   have G:=s
   have I:=d
   subst ae
   have s:=G
   have d:=I
   obtain ⟨_,_,_,_,_,rfl,rfl,rfl,rfl,rfl,⟨am,n222,ak,rfl,D⟩⟩:=aa
   obtain rfl:=D.1
   have d:=(d.addE (e:=SlA am _ ak ao.Epochs) D).addE ad
   obtain ⟨aw,af,l⟩:=K3 l
   refine h_c [0] [0] d y y (by kernel_rfl) y fun hC d=>gn 5 [0,1,2,3,4] [] s hC y y y fun a s=>?_
   have s:=s.bT 39 y k
   refine gn 3 [5,6,7] [] s hC y y y fun a s=>gx s 8 y ⟨_,y,y⟩ y hC m5 o3 y y ab ac fun a s=>gt s 9 y ⟨_,y,y⟩ y hC (fun w hC=>D5 (j:=0) (hC.ceAt 0 y) y F2 o3 y y) fun a s=>gt s 10 y ⟨_,y,y⟩ y hC (fun w hC=>Y0 (hC.ownAt 0 y) y B9 s6 y y) fun a s=>ho 11 y ?_
   refine x9 s ((d.bE 3 y).2 a2O.rfl' d.bdom ⟨_,_,_,_,_,y,y,y,y,y,⟨_,_,_,y,d.bE 1 y⟩⟩ ⟨_,_,_,_,y,y,y,y,y⟩ af) (a4A (d.bE 3 y).1 y y) ⟨_,y,y⟩ y y ?_
   rintro aE av w a ag rfl s
   have d:=d.callB ag
   refine h_n [0] [0] d y y fun hC=>gt s 12 y ⟨_,y,y⟩ y hC (fun w hC=>y_eql y y) fun a s=>gT s 13 y y hC y y l fun a s=>gn 2 [14,15] [] s hC y y y fun a s=>q9 (by kernel_rfl) ?_
   exact ⟨h,wj s d [] []⟩
  have ah:=E8 A k
  refine h_c [0] [] d y y (by kernel_rfl) y fun hC d=>gn 5 [0,1,2,3,4] [] s hC y y y fun a s=>?_
  have s:=s.bF 39 y k
  refine gn 8 [5,6,7,8,9,10,11,12] [] s hC y y y fun a s=>gF s 13 y y hC y y ah fun a s=>gn 2 [14,15] [] s hC y y y fun a s=>q9 (by kernel_rfl) ?_
  exact ⟨h,wj s d [] []⟩
 rintro a w ⟨z,s,d⟩
 refine tn ?_
 obtain rfl:=oi u
 exact t7 (Y7 s y (F3 y) (F3 y) (d.ret y))
theorem a8q {w0 S0 p2 k3 c1 s5 r} (u:a0f c1 s5=some r) (hS:Dm S0 w0) (h4:(Sq p2 k3 c1.Epochs).p S0 w0):Ck Tryz.prog 91 #[V73 c1 p2 k3,V32 s5] w0 S0 [] K7 r:=by
 refine en 9 func91 y hS y y y fun a s d=>?_
 have d:=d.addE h4
 refine sr (wb (C73 c1 p2 k3) s d y fun b6 a w s d=>?_)
 refine wb (C32 s5) s d y fun b7 a w s d=>rz0 1 s y fun a s=>sn 3 [1,0] s d y y fun a s=>?_
 obtain ⟨b,h8,u⟩:=bt u
 refine cV s d (a4W h8 d.bdom) (j3 call92 y) y fun a w s d=>rz0 1 s y fun a s=>?_
 obtain rfl:=oi u
 exact q1 s y (d.ret y)
theorem a8p (S0:Nat→Prop) (w0:World):(a8j Tryz.prog 91 [] [] a0f).p S0 w0:=by
  refine ⟨call91,?_⟩
  rintro S1 w1 hk hS c0 c1 x0 x1 r1 ⟨_,_,_,_,_,rfl,rfl,rfl,rfl,rfl,⟨_,_,_,rfl,e0⟩⟩ h1 hf
  obtain ⟨_,_,_,_,rfl,rfl,rfl,rfl,rfl⟩:=h1
  obtain rfl:=e0.1
  exact a8q hf hS e0
theorem b0F {w0 S0 p2 k3 b s5 r} (u:a4U b s5=some r) (hS:Dm S0 w0) (h4:(Sq p2 k3 b.Channels).p S0 w0):Ck Tryz.prog 49 #[.agg #[sl p2 k3 b.Channels],V32 s5] w0 S0 [] L9 r:=by
 refine en 12 func49 y hS y y y fun a s d=>?_
 have d:=d.addE h4
 refine sr (wb [sl p2 k3 b.Channels] s d y fun b6 a w s d=>?_)
 refine wb (C32 s5) s d y fun b7 a w s d=>rz0 2 s y fun a s=>sn 3 [1,0] s d y y fun a s=>?_
 obtain ⟨c,h8,u⟩:=bt u
 refine cV s d (X4 h8 d.bdom (d.bE 0 y) (a8p _ _)) (j3 call90 y) y fun a w s d=>rz0 4 s y fun a s=>?_
 obtain rfl:=oi u
 exact t7 (Y7 s y (F3 y) (F3 y) (d.ret y))
theorem a0a {w0 S0 p2 k3 g6 f7 f s1} {f5:Epoch→Option Bool} {r} (u:J2 s1 f5=some r) (hS:Dm S0 w0) (h4:(Sq p2 k3 s1).p S0 w0) (h9:(a6o Tryz.prog g6 f7 f f5).p S0 w0):Ck Tryz.prog 93 #[sl p2 k3 s1,.func (.func g6) f7.toArray f.toArray] w0 S0 [] K7 r:=by
 refine en 19 func93 y hS y y y fun a s d=>?_
 have d:=(d.addE h4).addE h9
 refine sz0 1 s y fun a s=>l3 (sz0 3 s y fun a s=>?_)
 refine m6 (u7 (fun m a w=>∃ b,Sl 19 [(0,sl p2 k3 s1),(1,.func (.func g6) f7.toArray f.toArray),(7,iv (s1.length:Int)),(8,iv m)] a∧Wd ⟨w0,S0,[]⟩ b [] [Sq p2 k3 s1,a6o Tryz.prog g6 f7 f f5] w) 0 u ⟨S0,wj s d [] [1,0]⟩ ?_)
 repeat clear u
 rintro m a w H ⟨b,s,d⟩ u g
 refine sz0 1 s y fun a s=>l3 (cd s u y (fun u=>?_) fun u=>?_)
 ·refine sk (l3 (m6 (sz0 2 s y fun a s=>?_)))
  refine sn0 3 s y fun a s=>?_
  obtain ⟨D,n,u⟩:=bt u
  obtain ⟨I,K,L,J,v,h,q,t,o⟩:=d.elemV 0 y n
  have k:=s
  have l:=d
  subst v
  have s:=k
  have d:=l
  obtain ⟨_,_,_,_,_,_,_,_,rfl,rfl,rfl,rfl,rfl,rfl,rfl,rfl,⟨C,n212,B,rfl,i⟩⟩:=o
  obtain rfl:=i.1
  have d:=(d.addE (e:=SlA C _ B D.Response.Stages) i).addE t
  refine sv s (o7 o4 t6 y y h.1 h.2 q) y fun a s=>sv s (D5 (j:=0) (d.ceAt 0 y) y E3 t6 y y) y fun a s=>?_
  obtain ⟨F,x,u⟩:=bt u
  refine x9 s ((d.bE 3 y).2 a2O.rfl' d.bdom ⟨_,_,_,_,_,_,_,_,y,y,y,y,y,y,y,y,⟨_,_,_,y,d.bE 1 y⟩⟩ x) (a4A (d.bE 3 y).1 y y) j8 y y ?_
  rintro M E w a z rfl s
  have d:=d.callB z
  refine nl (cd s u y (fun u=>?_) fun u=>?_)
  ·refine sz0 2 s y fun a s=>?_
   obtain rfl:=oi u
   have A:=g _ y
   subst A
   exact t7 (o8 (j4 (j4 (o8 (j4 (rt s y (d.ret y)))))))
  refine D1 (l9 (tn (j9 (rz0 2 s y fun a s=>?_))))
  exact ⟨_,io u,b,wj s d [] [2,3]⟩
 obtain ⟨G,u,c⟩:=X5 u
 have c:=(g _ c.symm).symm
 subst c
 refine u0 (j5 (j5 (o9 (tn (sz0 1 s y fun a s=>?_)))))
 obtain rfl:=oi u
 exact q1 s y (d.ret y)
theorem a9u {w0 S0 p2 k3 b6 e1 x5 r} (u:a1L e1 x5=some r) (hS:Dm S0 w0) (h4:(Sq p2 k3 e1.Response.Stages).p S0 w0) (h7:(CeA b6 0 [iv x5]).p S0 w0):Ck Tryz.prog 94 #[V41 e1 p2 k3,pt b6] w0 S0 [] o5 r:=by
 refine en 8 func94 y hS y y y fun a s d=>?_
 have d:=(d.addE h4).addE h7
 refine sr (wb (C41 e1 p2 k3) s d y fun b8 a w s d=>?_)
 refine rz0 1 s y fun a s=>sn 2 [0] s d y y fun a s=>sv s (F5 (j:=0) (d.ceAt 0 y) y s8 y) y fun a s=>rz0 2 s y fun a s=>?_
 obtain rfl:=oi u
 exact q1 s y (d.ret y)
theorem a9t {S0 w0 b6 x5} (h7:(CeA b6 0 [iv x5]).p S0 w0):(a6o Tryz.prog 94 [] [pt b6] (fun y0=>a1L y0 x5)).p S0 w0:=by
  refine ⟨call94,?_⟩
  rintro S1 w1 hk hS c0 x0 r1 ⟨_,_,_,_,_,_,_,_,rfl,rfl,rfl,rfl,rfl,rfl,rfl,rfl,⟨_,_,_,rfl,e0⟩⟩ hf
  obtain rfl:=e0.1
  exact a9u hf hS e0 (Asrt.mono _ hk h7)
theorem a6d {w0 S0 p2 k3 l1 b r} (u:a3s l1 b=some r) (hS:Dm S0 w0) (h4:(Sq p2 k3 l1).p S0 w0):Ck Tryz.prog 50 #[sl p2 k3 l1,iv b] w0 S0 [] K7 r:=by
 refine en 8 func50 y hS y y y fun a s d=>?_
 have d:=d.addE h4
 refine sr (wb [iv b] s d y fun b6 a w s d=>?_)
 refine rz0 1 s y fun a s=>sn0 1 s y fun a s=>sv s (b0h (vs:=#[]) (us:=#[pt b6]) y y) y fun a s=>?_
 obtain ⟨c,h7,u⟩:=bt u
 refine cV s d (a0a h7 d.bdom (d.bE 0 y) (a9t (d.bBox 0 y))) (j3 call93 y) y fun a w s d=>rz0 1 s y fun a s=>?_
 obtain rfl:=oi u
 exact q1 s y (d.ret y)
theorem a3v {w0 S0 p2 k3 c4 s1 i6 j7 r} (u:U7 s1 i6 j7=some r) (hS:Dm S0 w0) (hin:Ins S0 w0 [.row p2 s1.length k3 c4 41 8]) (h5:(j6 c4 s1).p S0 w0):Ck Tryz.prog 51 #[sl p2 k3 s1,iv i6,iv j7] w0 S0 (J3 [.row p2 s1.length k3 c4 41 8]) J5 r:=by
 refine enI 33 func51 y hS hin y y y fun a s d=>?_
 have d:=(d.addE h5).addE (e:=a2S s1.length s1) a6M
 refine sz0 1 s y fun a s=>sn0 5 s y fun a s=>?_
 obtain ⟨F,h8,u⟩:=bt u
 obtain ⟨I,C,h9⟩:=b2w (α:=Epoch) d 0 y h8
 refine sv s (b2O o4 t6 y ⟨_,y⟩ y y h9) y fun a s=>nl (l3 (sz0 3 s y fun a s=>?_))
 refine wp_cond_split (s.ev y) (fun f=>?_) (fun f=>?_)
 ·have u:=D7 u f
  refine sz0 2 s y fun a s=>?_
  obtain rfl:=oi u
  exact t7 (j4 (rt s y (d.ret ⟨p2,k3,c4,y,(d.outs [0] (by decide) y),(d.envAt 1 y)⟩)))
 have u:=E8 u f
 refine sk (sn0 2 s y fun a s=>?_)
 obtain ⟨c,q,u⟩:=bt u
 refine sv s (w9 y q) y fun a s=>nl (l3 ?_)
 obtain ⟨z,h,u⟩:=bt u
 have t:=b2v (α:=Epoch) d 0 y h
 obtain ⟨A,i,u⟩:=bt u
 obtain ⟨J,D,j⟩:=X9 (α:=Epoch) d 0 y i
 obtain ⟨n,v,u⟩:=bt u
 refine C7 (fun a w=>∃ g b,Sl 33 [(0,sl p2 k3 (z ++ A)),(7,iv c)] a∧Wd ⟨w0,S0,J3 [.row p2 s1.length k3 c4 41 8]⟩ g [.row p2 n.length k3 b 41 8] [j6 b n] w) ?_ ?_
 ·refine h_c [] [] d y y (by kernel_rfl) y fun hC d=>gn 2 [0,1] [] s hC y y y fun a s=>gv s 2 y y hC (fun w hC=>U4 o4 t6 y (by exact y) ⟨_,y⟩ t) fun a s=>gn 2 [3,4] [] s hC y y y fun a s=>gv s 5 y y hC (fun w hC=>U4 o4 t6 y ⟨_,y⟩ (by exact y) j) fun a s=>ho 6 y ?_
  refine b2K (α:=Epoch) s d 0 y 1 y a7k h8 f h i j y y v y j8 ?_
  intro b a w s d
  refine h_n [] [] d y y fun hC=>gv s 7 y y hC (fun w hC=>J6 y) fun a s=>q9 (by kernel_rfl) ?_
  exact ⟨S0,b,wj s d [0] [0]⟩
 rintro a w ⟨g,b,s,d⟩
 refine tn (sn0 4 s y fun a s=>?_)
 obtain ⟨G,k,u⟩:=bt u
 obtain ⟨p32,E,l⟩:=X9 (α:=Epoch) d 0 y k
 refine sv s (U4 o4 t6 y ⟨_,y⟩ ⟨_,y⟩ l) y fun a s=>?_
 obtain ⟨H,x,u⟩:=bt u
 obtain ⟨B,m,u⟩:=bt u
 refine b0N (α:=Epoch) (z0:=((⟨0,0,(⟨0,0⟩:Rate),(⟨0,0,0⟩:Position),(⟨([]:List Stage)⟩:Response)⟩:Epoch):Epoch)) s d 0 y 0 y a7k ⟨_,_,_,_,_,_,_,_,y,y,y,y,y,y,y,y,⟨none,0,0,y,K9⟩⟩ k l y j8 ?_
 intro o a w s d
 rw [Option.some.inj x] at d
 obtain ⟨d,_⟩:=b2J d 0 y 0 y m
 have s:=s.fl 0 y (b2E m)
 refine nl (sz0 2 s y fun a s=>?_)
 obtain rfl:=oi u
 exact q1 s y (d.ret ⟨p2,k3,(o.take (B.length * 8)),y,(d.outs [0] (by decide) y),(d.envAt 0 y)⟩)
theorem a1O {w0 S0 p2 k3 g6 f7 b s1} {f5:Epoch→Option Bool} {r} (u:K6 s1 f5=some r) (hS:Dm S0 w0) (h4:(Sq p2 k3 s1).p S0 w0) (h9:(a6o Tryz.prog g6 f7 b f5).p S0 w0):Ck Tryz.prog 95 #[sl p2 k3 s1,.func (.func g6) f7.toArray b.toArray] w0 S0 [] o5 r:=by
 refine en 9 func95 y hS y y y fun a s d=>?_
 have d:=(d.addE h4).addE h9
 refine sz0 1 s y fun a s=>sn0 2 s y fun a s=>?_
 obtain ⟨e,c,u⟩:=bt u
 refine cV s d (a0a c d.bdom (d.bE 1 y) (d.bE 0 y)) (j3 call93 y) y fun a w s d=>rz0 2 s y fun a s=>?_
 obtain rfl:=oi u
 exact q1 s y (d.ret y)
theorem a8J {w0 S0 p2 k3 b6 p7 k8 x1 x5 r} (u:a2M x1 x5=some r) (hS:Dm S0 w0) (h4:(Sq p2 k3 x1.Response.Stages).p S0 w0) (h9:(CeA b6 0 (C41 x5 p7 k8)).p S0 w0) (b:(Sq p7 k8 x5.Response.Stages).p S0 w0):Ck Tryz.prog 96 #[V41 x1 p2 k3,pt b6] w0 S0 [] o5 r:=by
 refine en 15 func96 y hS y y y fun a s d=>?_
 have d:=((d.addE h4).addE h9).addE b
 refine sr (wb (C41 x1 p2 k3) s d y fun c a w s d=>?_)
 refine rz0 1 s y fun a s=>sn 3 [0] s d y y fun a s=>sv s (F5 (j:=0) (d.ceAt 1 y) y s8 y) y fun a s=>rn 4 [0] s d y y fun a s=>sv s (F5 (j:=1) (d.ceAt 1 y) y s8 y) y fun a s=>rz0 3 s y fun a s=>?_
 obtain rfl:=oi u
 exact q1 s y (d.ret y)
theorem a8I {S0 w0 b6 p7 k8 x5} (h9:(CeA b6 0 (C41 x5 p7 k8)).p S0 w0) (a:(Sq p7 k8 x5.Response.Stages).p S0 w0):(a6o Tryz.prog 96 [] [pt b6] (fun y0=>a2M y0 x5)).p S0 w0:=by
  refine ⟨call96,?_⟩
  rintro S1 w1 hk hS c0 x0 r1 ⟨_,_,_,_,_,_,_,_,rfl,rfl,rfl,rfl,rfl,rfl,rfl,rfl,⟨_,_,_,rfl,e0⟩⟩ hf
  obtain rfl:=e0.1
  exact a8J hf hS e0 (Asrt.mono _ hk h9) (Asrt.mono _ hk a)
end Go.Proofs.YteanekphncdhiaaGreat.Wk
namespace Go.Proofs
open Go Go.Shelf Go.RowKit Go.Lib Go.Sort
def Tryz.sort98_ren:Go.Shelf.Ren:=⟨fun | 6=>98 | 15=>132 | 14=>131 | 28=>157 | 29=>158 | 20=>149 | 21=>150 | 22=>151 | 23=>152 | 24=>153 | 25=>154 | 26=>155 | 27=>156 | 46=>183 | 47=>184 | 48=>185 | 49=>186 | 50=>187 | 57=>196 | n=>n,fun | 22=>71 | 24=>41 | 25=>147 | 3=>3 | 39=>165 | 0=>0 | 53=>188 | 55=>190 | 4=>4 | 46=>182 | 45=>181 | 50=>101 | 5=>5 | 9=>9 | 66=>204 | 70=>208 | 76=>216 | 77=>127 | n=>n,fun | n=>n⟩
theorem Tryz.sort98:Go.Proofs.SlLaysF0.n6 Tryz.prog Tryz.sort98_ren where
  mixed:=by kernel_rfl
  f6:=⟨Tryz.f98.name,by decide,Tryz.func98.trans (congrArg some (by kernel_rfl))⟩
  f14:=⟨Tryz.f131.name,by decide,Tryz.func131.trans (congrArg some (by kernel_rfl))⟩
  f15:=Tryz.func132.trans (congrArg some (by kernel_rfl))
  f20:=⟨Tryz.f149.name,by decide,Tryz.func149.trans (congrArg some (by kernel_rfl))⟩
  f21:=⟨Tryz.f150.name,by decide,Tryz.func150.trans (congrArg some (by kernel_rfl))⟩
  f22:=⟨Tryz.f151.name,by decide,Tryz.func151.trans (congrArg some (by kernel_rfl))⟩
  f23:=⟨Tryz.f152.name,by decide,Tryz.func152.trans (congrArg some (by kernel_rfl))⟩
  f24:=⟨Tryz.f153.name,by decide,Tryz.func153.trans (congrArg some (by kernel_rfl))⟩
  f25:=⟨Tryz.f154.name,by decide,Tryz.func154.trans (congrArg some (by kernel_rfl))⟩
  f26:=⟨Tryz.f155.name,by decide,Tryz.func155.trans (congrArg some (by kernel_rfl))⟩
  f27:=⟨Tryz.f156.name,by decide,Tryz.func156.trans (congrArg some (by kernel_rfl))⟩
  f28:=Tryz.func157.trans (congrArg some (by kernel_rfl))
  f29:=Tryz.func158.trans (congrArg some (by kernel_rfl))
  f46:=⟨Tryz.f183.name,by decide,Tryz.func183.trans (congrArg some (by kernel_rfl))⟩
  f47:=Tryz.func184.trans (congrArg some (by kernel_rfl))
  f48:=Tryz.func185.trans (congrArg some (by kernel_rfl))
  f49:=⟨Tryz.f186.name,by decide,Tryz.func186.trans (congrArg some (by kernel_rfl))⟩
  f50:=⟨Tryz.f187.name,by decide,Tryz.func187.trans (congrArg some (by kernel_rfl))⟩
  f57:=⟨Tryz.f196.name,by decide,Tryz.func196.trans (congrArg some (by kernel_rfl))⟩
  t0:=Tryz.underlying0
  a0:=Tryz.isAgg0
  z0:=Tryz.sizeOf0
  v0:=Tryz.zeroValue0
  t3:=Tryz.underlying3
  a3:=Tryz.isAgg3
  z3:=Tryz.sizeOf3
  v3:=Tryz.zeroValue3
  t4:=Tryz.underlying4
  a4:=Tryz.isAgg4
  z4:=Tryz.sizeOf4
  v4:=Tryz.zeroValue4
  t5:=Tryz.underlying5
  a5:=Tryz.isAgg5
  z5:=Tryz.sizeOf5
  v5:=Tryz.zeroValue5
  t9:=Tryz.underlying9
  a9:=Tryz.isAgg9
  z9:=Tryz.sizeOf9
  v9:=Tryz.zeroValue9
  t22:=Tryz.underlying71
  a22:=Tryz.isAgg71
  z22:=Tryz.sizeOf71
  v22:=Tryz.zeroValue71
  t25:=Tryz.underlying147
  a25:=Tryz.isAgg147
  z25:=Tryz.sizeOf147
  v25:=Tryz.zeroValue147
  t39:=Tryz.underlying165
  a39:=Tryz.isAgg165
  z39:=Tryz.sizeOf165
  v39:=Tryz.zeroValue165
  t45:=Tryz.underlying181
  a45:=Tryz.isAgg181
  z45:=Tryz.sizeOf181
  v45:=Tryz.zeroValue181
  t46:=Tryz.underlying182
  a46:=Tryz.isAgg182
  z46:=Tryz.sizeOf182
  v46:=Tryz.zeroValue182
  t50:=Tryz.underlying101
  a50:=Tryz.isAgg101
  z50:=Tryz.sizeOf101
  v50:=Tryz.zeroValue101
  t53:=Tryz.underlying188
  a53:=Tryz.isAgg188
  z53:=Tryz.sizeOf188
  v53:=Tryz.zeroValue188
  t55:=Tryz.underlying190
  a55:=Tryz.isAgg190
  z55:=Tryz.sizeOf190
  v55:=Tryz.zeroValue190
  t66:=Tryz.underlying204
  a66:=Tryz.isAgg204
  z66:=Tryz.sizeOf204
  v66:=Tryz.zeroValue204
  t70:=Tryz.underlying208
  a70:=Tryz.isAgg208
  z70:=Tryz.sizeOf208
  v70:=Tryz.zeroValue208
  t76:=Tryz.underlying216
  a76:=Tryz.isAgg216
  z76:=Tryz.sizeOf216
  v76:=Tryz.zeroValue216
  t77:=Tryz.underlying127
  a77:=Tryz.isAgg127
  z77:=Tryz.sizeOf127
  v77:=Tryz.zeroValue127
end Go.Proofs
namespace Go.Proofs.YteanekphncdhiaaGreat.Wk
open Go Go.RowKit Go.Proofs Go.Proofs.YteanekphncdhiaaGreat.Sh Go.Proofs.Tryz
set_option linter.unusedVariables false
set_option linter.unusedSimpArgs false
abbrev a2R (w0:World) (X:List Nat) (p2:Option Addr) (k3:Nat) (x1:(List Epoch)) (r:(List Epoch)):(Nat→Prop)→World→Value→Prop:=fun S w v=>∃ a,v=.tuple #[]∧Outs X w0 S w [.row p2 r.length k3 a 41 8]∧(j6 a r).p S w∧(a2S x1.length r).p S w
theorem a2Q {w0 S0 p2 k3 c4 g7 a x1} {cmp6:Epoch→Epoch→Option Int} {r} (u:O7 x1 cmp6=some r) (hS:Dm S0 w0) (hin:Ins S0 w0 [.row p2 x1.length k3 c4 41 8]) (h5:(j6 c4 x1).p S0 w0) (b:(a8j Tryz.prog g7 [] a cmp6).p S0 w0):Calls Tryz.prog 98 #[sl p2 k3 x1,.func (.func g7) #[] a.toArray] w0 (Ret (J3 [.row p2 x1.length k3 c4 41 8]) w0 S0 (a2R w0 (J3 [.row p2 x1.length k3 c4 41 8]) p2 k3 x1 r)):=by
 exact sort_tot (α:=Epoch) (T:=41) Tryz.sort98 E3 t6 (fun _=>rfl) (by decide) u hS hin h5 b
theorem a8L {w0 S0 p2 k3 p6 k7 a1 b5 r} (u:a0q a1 b5=some r) (hS:Dm S0 w0) (h4:(Sq p2 k3 a1.Response.Stages).p S0 w0) (h8:(Sq p6 k7 b5.Response.Stages).p S0 w0):Ck Tryz.prog 99 #[V41 a1 p2 k3,V41 b5 p6 k7] w0 S0 [] K7 r:=by
 refine en 10 func99 y hS y y y fun a s d=>?_
 have d:=(d.addE h4).addE h8
 refine sr (wb (C41 a1 p2 k3) s d y fun b9 a w s d=>?_)
 refine wb (C41 b5 p6 k7) s d y fun c a w s d=>rz0 1 s y fun a s=>sn 5 [1,0] s d y y fun a s=>?_
 obtain ⟨e,b,u⟩:=bt u
 refine sv s (w9 y b) y fun a s=>nl ?_
 obtain rfl:=oi u
 exact q1 s y (d.ret y)
theorem a8K (S0:Nat→Prop) (w0:World):(a8j Tryz.prog 99 [] [] a0q).p S0 w0:=by
  refine ⟨call99,?_⟩
  rintro S1 w1 hk hS c0 c1 x0 x1 r1 ⟨_,_,_,_,_,_,_,_,rfl,rfl,rfl,rfl,rfl,rfl,rfl,rfl,⟨_,_,_,rfl,e0⟩⟩ h1 hf
  obtain ⟨_,_,_,_,_,_,_,_,rfl,rfl,rfl,rfl,rfl,rfl,rfl,rfl,⟨_,_,_,rfl,e1⟩⟩:=h1
  obtain rfl:=e0.1
  obtain rfl:=e1.1
  exact a8L hf hS e0 e1
abbrev b1p (w0:World) (X:List Nat) (r:((List Epoch) × Bool)):Rd:=fun S w v=>∃ c b a,v=.tuple #[sl c b r.1,.bool r.2]∧Outs X w0 S w [.row c r.1.length b a 41 8]∧(j6 a r.1).p S w
theorem b1o {w0 S0 p2 k3 c4 p7 k8 l1 e6 r} (u:a5N l1 e6=some r) (hS:Dm S0 w0) (hin:Ins S0 w0 [.row p2 l1.length k3 c4 41 8]) (h5:(j6 c4 l1).p S0 w0) (h9:(Sq p7 k8 e6.Response.Stages).p S0 w0):Ck Tryz.prog 52 #[sl p2 k3 l1,V41 e6 p7 k8] w0 S0 (J3 [.row p2 l1.length k3 c4 41 8]) b1p r:=by
 refine enI 17 func52 y hS hin y y y fun a s d=>?_
 have d:=((d.addE h5).addE (e:=a2S l1.length l1) a6M).addE h9
 refine sr (wb (C41 e6 p7 k8) s d y fun j a w s d=>?_)
 refine rz0 2 s y fun a s=>l3 (sn0 1 s y fun a s=>?_)
 refine sv s (b0h (vs:=#[]) (us:=#[pt j]) y y) y fun a s=>?_
 obtain ⟨H,l,u⟩:=bt u
 refine cV s d (a1O l d.bdom (d.bRow 1 y 2 y) (a8I (d.bBox 0 y) (d.bE 0 y))) (j3 call95 y) y fun a w s d=>nl (cd s u y (fun u=>?_) fun u=>?_)
 ·refine sz0 2 s y fun a s=>?_
  obtain rfl:=oi u
  have d:=d.nilRow Epoch 41
  exact t7 (j4 (Y7 s y (F3 y) (F3 y) (d.ret ⟨none,0,[],y,(d.outs [0] (by decide) y),(d.envAt 0 y)⟩)))
 refine sk (sn 2 [0] s d y y fun a s=>?_)
 obtain ⟨b,m,u⟩:=bt u
 refine cR s (a1S m d.dom (d.envAt 0 y)) (j3 call97 y) y ?_
 rintro L E w a o ⟨h,g,k,rfl,q,n⟩ s
 have d:=(d.callN o q).addE (e:=j6 k b.Response.Stages) n
 obtain ⟨F,d⟩:=C8 (α:=Stage) d 0 y 0 y
 refine q8 (α:=Epoch) (vs:=[V41 b h g]) (cs:=(C41 b h g)) (xs:=([b]:List Epoch)) s d a7k y y y y y y ⟨⟨_,_,_,_,_,_,_,_,y,y,y,y,y,y,y,y,⟨_,_,_,y,d.envAt 0 y⟩⟩,y⟩ y j8 y fun I a w s d=>?_
 obtain ⟨K,t,u⟩:=bt u
 refine F6 (α:=Epoch) s d a7k 2 y y y 5 y 0 y 0 y t y j8 ?_
 intro p38 D J a w s d
 refine rz0 1 s y fun a s=>sn0 1 s y fun a s=>?_
 obtain ⟨i,v,u⟩:=bt u
 refine cR s (a2Q v d.dom (d.ins [2] (by decide) y) (d.envAt 0 y) (a8K _ _)) (j3 call98 y) y ?_
 rintro M G w a A ⟨c,rfl,B,x,z⟩ s
 have d:=(d.callO [2] [0,1] (by decide) y A B).addE (e:=j6 c i) x
 have C:=z
 have f:=Eq.symm C
 try have s:=s.fl 0 rfl f
 try have s:=s.fl 14 rfl f
 refine nl (sz0 3 s y fun a s=>?_)
 obtain rfl:=oi u
 exact t7 (Y7 s y (F3 y) (F3 y) (d.ret ⟨p38,D,c,y,(d.outs [0] (by decide) y),(d.envAt 0 y)⟩))
theorem a8f {w0 S0 p2 k3 c4 s1 i6 j7 r} (u:M9 s1 i6 j7=some r) (hS:Dm S0 w0) (hin:Ins S0 w0 [.row p2 s1.length k3 c4 73 5]) (h5:(j6 c4 s1).p S0 w0):Ck Tryz.prog 53 #[sl p2 k3 s1,iv i6,iv j7] w0 S0 (J3 [.row p2 s1.length k3 c4 73 5]) H9 r:=by
 refine enI 33 func53 y hS hin y y y fun a s d=>?_
 have d:=(d.addE h5).addE (e:=a2S s1.length s1) a6M
 refine sz0 1 s y fun a s=>sn0 5 s y fun a s=>?_
 obtain ⟨F,h8,u⟩:=bt u
 obtain ⟨I,C,h9⟩:=b2w (α:=Channel) d 0 y h8
 refine sv s (b2O m5 o3 y ⟨_,y⟩ y y h9) y fun a s=>nl (l3 (sz0 3 s y fun a s=>?_))
 refine wp_cond_split (s.ev y) (fun f=>?_) (fun f=>?_)
 ·have u:=D7 u f
  refine sz0 2 s y fun a s=>?_
  obtain rfl:=oi u
  exact t7 (j4 (rt s y (d.ret ⟨p2,k3,c4,y,(d.outs [0] (by decide) y),(d.envAt 1 y)⟩)))
 have u:=E8 u f
 refine sk (sn0 2 s y fun a s=>?_)
 obtain ⟨c,q,u⟩:=bt u
 refine sv s (w9 y q) y fun a s=>nl (l3 ?_)
 obtain ⟨z,h,u⟩:=bt u
 have t:=b2v (α:=Channel) d 0 y h
 obtain ⟨A,i,u⟩:=bt u
 obtain ⟨J,D,j⟩:=X9 (α:=Channel) d 0 y i
 obtain ⟨n,v,u⟩:=bt u
 refine C7 (fun a w=>∃ g b,Sl 33 [(0,sl p2 k3 (z ++ A)),(7,iv c)] a∧Wd ⟨w0,S0,J3 [.row p2 s1.length k3 c4 73 5]⟩ g [.row p2 n.length k3 b 73 5] [j6 b n] w) ?_ ?_
 ·refine h_c [] [] d y y (by kernel_rfl) y fun hC d=>gn 2 [0,1] [] s hC y y y fun a s=>gv s 2 y y hC (fun w hC=>U4 m5 o3 y (by exact y) ⟨_,y⟩ t) fun a s=>gn 2 [3,4] [] s hC y y y fun a s=>gv s 5 y y hC (fun w hC=>U4 m5 o3 y ⟨_,y⟩ (by exact y) j) fun a s=>ho 6 y ?_
  refine b2K (α:=Channel) s d 0 y 1 y a8i h8 f h i j y y v y j8 ?_
  intro b a w s d
  refine h_n [] [] d y y fun hC=>gv s 7 y y hC (fun w hC=>J6 y) fun a s=>q9 (by kernel_rfl) ?_
  exact ⟨S0,b,wj s d [0] [0]⟩
 rintro a w ⟨g,b,s,d⟩
 refine tn (sn0 4 s y fun a s=>?_)
 obtain ⟨G,k,u⟩:=bt u
 obtain ⟨p32,E,l⟩:=X9 (α:=Channel) d 0 y k
 refine sv s (U4 m5 o3 y ⟨_,y⟩ ⟨_,y⟩ l) y fun a s=>?_
 obtain ⟨H,x,u⟩:=bt u
 obtain ⟨B,m,u⟩:=bt u
 refine b0N (α:=Channel) (z0:=((⟨(⟨ByteArray.empty,ByteArray.empty,ByteArray.empty,ByteArray.empty⟩:SourceID),([]:List Epoch)⟩:Channel):Channel)) s d 0 y 0 y a8i ⟨_,_,_,_,_,y,y,y,y,y,⟨none,0,0,y,K9⟩⟩ k l y j8 ?_
 intro o a w s d
 rw [Option.some.inj x] at d
 obtain ⟨d,_⟩:=b2J d 0 y 0 y m
 have s:=s.fl 0 y (b2E m)
 refine nl (sz0 2 s y fun a s=>?_)
 obtain rfl:=oi u
 exact q1 s y (d.ret ⟨p2,k3,(o.take (B.length * 5)),y,(d.outs [0] (by decide) y),(d.envAt 0 y)⟩)
noncomputable def delR (s1:List ChanR) (i6 j7:Int):Option (List ChanR):=delG zR s1 i6 j7
abbrev delR_rd (w0:World) (X:List Nat) (r:(List ChanR)):Rd:=fun S w v=>∃ c b a,v=sl c b r∧Outs X w0 S w [.row c r.length b a 73 5]∧(j6 a r).p S w
theorem delR_ok {w0 S0 p2 k3 c4} {s1:List ChanR} {i6 j7 r} (u:delR s1 i6 j7=some r) (hS:Dm S0 w0) (hin:Ins S0 w0 [.row p2 s1.length k3 c4 73 5]) (h5:(j6 c4 s1).p S0 w0):Ck Tryz.prog 53 #[sl p2 k3 s1,iv i6,iv j7] w0 S0 (J3 [.row p2 s1.length k3 c4 73 5]) delR_rd r:=by
 refine enI 33 func53 y hS hin y y y fun a s d=>?_
 have d:=(d.addE h5).addE (e:=a2S s1.length s1) a6M
 refine sz0 1 s y fun a s=>sn0 5 s y fun a s=>?_
 obtain ⟨F,h8,u⟩:=bt u
 obtain ⟨I,C,h9⟩:=b2w (α:=ChanR) d 0 y h8
 refine sv s (b2O m5 o3 y ⟨_,y⟩ y y h9) y fun a s=>nl (l3 (sz0 3 s y fun a s=>?_))
 refine wp_cond_split (s.ev y) (fun f=>?_) (fun f=>?_)
 ·have u:=D7 u f
  refine sz0 2 s y fun a s=>?_
  obtain rfl:=oi u
  exact t7 (j4 (rt s y (d.ret ⟨p2,k3,c4,y,(d.outs [0] (by decide) y),(d.envAt 1 y)⟩)))
 have u:=E8 u f
 refine sk (sn0 2 s y fun a s=>?_)
 obtain ⟨c,q,u⟩:=bt u
 refine sv s (w9 y q) y fun a s=>nl (l3 ?_)
 obtain ⟨z,h,u⟩:=bt u
 have t:=b2v (α:=ChanR) d 0 y h
 obtain ⟨A,i,u⟩:=bt u
 obtain ⟨J,D,j⟩:=X9 (α:=ChanR) d 0 y i
 obtain ⟨n,v,u⟩:=bt u
 refine C7 (fun a w=>∃ g b,Sl 33 [(0,sl p2 k3 (z ++ A)),(7,iv c)] a∧Wd ⟨w0,S0,J3 [.row p2 s1.length k3 c4 73 5]⟩ g [.row p2 n.length k3 b 73 5] [j6 b n] w) ?_ ?_
 ·refine h_c [] [] d y y (by kernel_rfl) y fun hC d=>gn 2 [0,1] [] s hC y y y fun a s=>gv s 2 y y hC (fun w hC=>U4 m5 o3 y (by exact y) ⟨_,y⟩ t) fun a s=>gn 2 [3,4] [] s hC y y y fun a s=>gv s 5 y y hC (fun w hC=>U4 m5 o3 y ⟨_,y⟩ (by exact y) j) fun a s=>ho 6 y ?_
  refine b2K (α:=ChanR) s d 0 y 1 y a8i h8 f h i j y y v y j8 ?_
  intro b a w s d
  refine h_n [] [] d y y fun hC=>gv s 7 y y hC (fun w hC=>J6 y) fun a s=>q9 (by kernel_rfl) ?_
  exact ⟨S0,b,wj s d [0] [0]⟩
 rintro a w ⟨g,b,s,d⟩
 refine tn (sn0 4 s y fun a s=>?_)
 obtain ⟨G,k,u⟩:=bt u
 obtain ⟨p32,E,l⟩:=X9 (α:=ChanR) d 0 y k
 refine sv s (U4 m5 o3 y ⟨_,y⟩ ⟨_,y⟩ l) y fun a s=>?_
 obtain ⟨H,x,u⟩:=bt u
 obtain ⟨B,m,u⟩:=bt u
 refine b0N (α:=ChanR) (z0:=zR) s d 0 y 0 y a8i ⟨y,none,0,0,y⟩ k l y j8 ?_
 intro o a w s d
 rw [Option.some.inj x] at d
 obtain ⟨d,_⟩:=b2J d 0 y 0 y m
 have s:=s.fl 0 y (b2E m)
 refine nl (sz0 2 s y fun a s=>?_)
 obtain rfl:=oi u
 exact q1 s y (d.ret ⟨p2,k3,(o.take (B.length * 5)),y,(d.outs [0] (by decide) y),(d.envAt 0 y)⟩)
theorem a2h {w0 S0 p2 k3 c4 s1 i6 j7 r} {b:Bool} (u:M9 s1 i6 j7=some r) (hj:j7=w64 (i6+1)) (hS:Dm S0 w0) (hin:Ins S0 w0 [.row p2 s1.length k3 c4 73 5]) (h5:(b0j c4 s1 b i6).p S0 w0):Ck Tryz.prog 53 #[sl p2 k3 s1,iv i6,iv j7] w0 S0 (J3 [.row p2 s1.length k3 c4 73 5]) H9 r:=by
 obtain ⟨rs,h1,h2,h3⟩:=h5
 obtain ⟨g0,g1,g2,rfl⟩:=delG_t (z:=(⟨(⟨ByteArray.empty,ByteArray.empty,ByteArray.empty,ByteArray.empty⟩:SourceID),([]:List Epoch)⟩:Channel)) u
 have a:j7.toNat=i6.toNat+1:=by have:=b7d (hj ▸ g1) g0;omega
 have hd:delR rs i6 j7=some (rs.take i6.toNat ++ rs.drop j7.toNat):=a8X _ g0 g1 (by omega)
 have hin':Ins S0 w0 [.row p2 rs.length k3 c4 73 5]:=by rw [h2];exact hin
 have hok:=delR_ok (p2:=p2) (k3:=k3) hd hS hin' h1
 have hll:(rs.take i6.toNat ++ rs.drop j7.toNat).length=(s1.take i6.toNat ++ s1.drop j7.toNat).length:=by simp [h2]
 have e1:J3 [.row p2 rs.length k3 c4 73 5]=J3 [.row p2 s1.length k3 c4 73 5]:=rfl
 have e2:(#[sl p2 k3 rs,iv i6,iv j7]:Array Value)=#[sl p2 k3 s1,iv i6,iv j7]:=by simp only [sl,h2]
 rw [← e2]
 refine hok.mono fun e w' hr=>?_
 obtain ⟨v,S,rfl,hp,p,k,c,rfl,ho,hR⟩:=hr
 refine ⟨_,S,rfl,hp,p,k,c,by simp only [sl,hll],by rw [← hll];exact ho,?_⟩
 have hk:a2O S0 S w0 w':=fun b hb=>⟨hp.sub b hb,hp.keep b (hS b hb) (notX hin hb)⟩
 refine b0x hR hll fun n r' x hr hx=>?_
 obtain ⟨m,hm,f1,f2⟩:∃ m,m≠i6.toNat∧rs[m]? = some r'∧s1[m]? = some x:=by
  by_cases hn:n<i6.toNat
  ·exact ⟨n,by omega,by rw [List.getElem?_append_left (by simp;omega),List.getElem?_take_of_lt hn] at hr;exact hr,by rw [List.getElem?_append_left (by simp;omega),List.getElem?_take_of_lt hn] at hx;exact hx⟩
  rw [List.getElem?_append_right (by simp;omega),List.getElem?_drop] at hr hx
  have l1:(rs.take i6.toNat).length=i6.toNat:=by simp;omega
  have l2:(s1.take i6.toNat).length=i6.toNat:=by simp;omega
  rw [l1] at hr
  rw [l2] at hx
  exact ⟨_,by omega,hr,hx⟩
 obtain ⟨z1,z2⟩:=h3 m r' x f1 f2
 exact ⟨z1,(z2 fun _=>by omega).keep hk⟩
abbrev a2s (w0:World) (X:List Nat) (p8:Option Addr) (k9:Nat) (v7:(List Channel)) (r:((List Channel) × (List Channel))):(Nat→Prop)→World→Value→Prop:=fun S w v=>∃ d c a b,v=sl d c r.1∧Outs X w0 S w [.row d r.1.length c a 73 5,.row p8 r.2.length k9 b 73 5]∧(j6 a r.1).p S w∧(j6 b r.2).p S w∧(a2S v7.length r.2).p S w
theorem a2r {w0 S0 p2 k3 c4 p8 k9 b s1 i6 v7 r} (u:N8 s1 i6 v7=some r) (hS:Dm S0 w0) (hin:Ins S0 w0 [.row p2 s1.length k3 c4 73 5,.row p8 v7.length k9 b 73 5]) (h5:(j6 c4 s1).p S0 w0) (an:(j6 b v7).p S0 w0):Calls Tryz.prog 54 #[sl p2 k3 s1,iv i6,sl p8 k9 v7] w0 (Ret (J3 [.row p2 s1.length k3 c4 73 5,.row p8 v7.length k9 b 73 5]) w0 S0 (a2s w0 (J3 [.row p2 s1.length k3 c4 73 5,.row p8 v7.length k9 b 73 5]) p8 k9 v7 r)):=by
 refine enI 95 func54 y hS hin y y y fun a s d=>?_
 have d:=((d.addE h5).addE (e:=a2S s1.length s1) a6M).addE an
 have d:=d.addE (e:=a2S v7.length v7) a6M
 refine sz0 1 s y fun a s=>sn0 2 s y fun a s=>?_
 obtain ⟨aU,ao,u⟩:=bt u
 obtain ⟨a2,aR,ap⟩:=X9 (α:=Channel) d 0 y ao
 refine sv s (U4 m5 o3 y ⟨_,y⟩ (by exact y) ap) y fun a s=>nl (sn0 2 s y fun a s=>?_)
 obtain ⟨a1,R,u⟩:=bt u
 refine sv s (w9 y R) y fun a s=>nl (l3 (sz0 2 s y fun a s=>?_))
 refine wp_cond_split (s.ev y) (fun o=>?_) (fun o=>?_)
 ·have u:=D7 u o
  refine sz0 2 s y fun a s=>?_
  obtain rfl:=oi u
  exact t7 (j4 (rt s y (d.ret ⟨p2,k3,c4,b,y,(d.outs [0,1] (by decide) y),(d.envAt 3 y),(d.envAt 1 y),(d.envAt 0 y)⟩)))
 have u:=E8 u o
 refine sk (sn0 2 s y fun a s=>?_)
 obtain ⟨n22,S,u⟩:=bt u
 refine sv s (w9 y S) y fun a s=>nl (l3 (sz0 3 s y fun a s=>?_))
 refine wp_cond_split (s.ev y) (fun q=>?_) (fun q=>?_)
 ·have u:=D7 u q
  refine sn0 2 s y fun a s=>?_
  obtain ⟨aV,aq,u⟩:=bt u
  refine F6 (α:=Channel) s d a8i 0 y y y 3 y 1 y 1 y aq y j8 ?_
  intro p32 au am a w s d
  refine rz0 1 s y fun a s=>?_
  obtain rfl:=oi u
  exact t7 (j4 (rt s y (d.ret ⟨p32,au,am,b,y,(d.outs [0,1] (by decide) y),(d.envAt 0 y),(d.envAt 2 y),(d.envAt 1 y)⟩)))
 have u:=E8 u q
 refine sk (l3 (sn0 4 s y fun a s=>?_))
 refine sv s (b5h m5 y) y fun a s=>rz0 1 s y fun a s=>wp_cond_split (s.ev y) (fun J=>?_) (fun J=>?_)
 ·refine sn0 2 s y fun a s=>?_
  obtain ⟨aW,K,u⟩:=bt u
  have ar:=row_pre (α:=Channel) d 0 y K
  refine sv s (U4 m5 o3 y (by exact y) ⟨_,y⟩ ar) y fun a s=>rn0 5 s y fun a s=>?_
  obtain ⟨aX,T,u⟩:=bt u
  refine b4m (α:=Channel) (z0:=((⟨(⟨ByteArray.empty,ByteArray.empty,ByteArray.empty,ByteArray.empty⟩:SourceID),([]:List Epoch)⟩:Channel):Channel)) s d 0 y 3 y a8i ⟨_,_,_,_,_,y,y,y,y,y,⟨none,0,0,y,K9⟩⟩ underlying3 K y y T (grow_lt J K T) y j8 ?_
  intro Q O aP a w s d
  refine rz0 1 s y fun a s=>sn0 2 s y fun a s=>?_
  obtain ⟨aY,L,u⟩:=bt u
  obtain ⟨a3,aS,U⟩:=X9 (α:=Channel) d 0 y L
  refine sv s (U4 m5 o3 y ⟨_,y⟩ (by exact y) U) y fun a s=>mv s y y fun a s=>?_
  obtain ⟨aZ,V,u⟩:=bt u
  obtain ⟨ds_,M⟩:=b6n (d.ownAt 2 y) (d.envAt 2 y)
  refine b0O (α:=Channel) s d 0 y 0 y m5 m5 o3 (by decide) L U y y y M.1 M.2.1 M.2.2 y j8 ?_
  intro aQ a w s d
  rw [Option.some.inj V] at d
  have W:=(a5k L V)
  try have s:=s.fl 9 rfl W
  try have s:=s.fl 41 rfl W
  refine nl (l3 ?_)
  obtain ⟨a0,N,u⟩:=bt u
  obtain ⟨a4,aT,X⟩:=X9 (α:=Channel) d 0 y N
  obtain ⟨aC,Y,u⟩:=bt u
  obtain ⟨a5,ax,Z⟩:=X9 (α:=Channel) d 1 y Y
  obtain ⟨j,t,u⟩:=bt u
  refine C7 (fun a w=>∃ l c,Sl 95 [(9,sl Q O j)] a∧Wd ⟨w0,S0,J3 [.row p2 s1.length k3 c4 73 5,.row p8 v7.length k9 b 73 5]⟩ l [.row p2 s1.length k3 c4 73 5,.row p8 v7.length k9 b 73 5,.row Q j.length O c 73 5] [j6 c4 s1,a2S s1.length s1,j6 b v7,a2S v7.length v7,j6 c j] w) ?_ ?_
  ·refine h_c [1,2] [] d y y (by kernel_rfl) y fun hC d=>gn 4 [0,1,2,3] [] s hC y y y fun a s=>gv s 4 y y hC (fun w hC=>U4 m5 o3 y ⟨_,y⟩ (by exact y) X) fun a s=>gn 2 [5,6] [] s hC y y y fun a s=>gv s 7 y y hC (fun w hC=>U4 m5 o3 y ⟨_,y⟩ (by exact y) Z) fun a s=>ho 8 y ?_
   obtain ⟨ds_,g⟩:=b4i (d.ownAt 1 y) (d.envAt 5 y) Y Z
   refine b0O (α:=Channel) s d 0 y 0 y m5 m5 o3 (by decide) N X y y y g.1 g.2.1 g.2.2 y j8 ?_
   intro c a w s d
   rw [Option.some.inj t] at d
   have v:=(a5k N t)
   try have s:=s.fl 9 rfl v
   try have s:=s.fl 46 rfl v
   refine h_n [1,2] [] d y y fun hC=>q9 (by kernel_rfl) ?_
   exact ⟨S0,c,wj s d [1,2,0] [6,5,4,3,0]⟩
  rintro a w ⟨l,c,s,d⟩
  refine tn (sz0 2 s y fun a s=>?_)
  obtain rfl:=oi u
  exact t7 (j4 (rt s y (d.ret ⟨Q,O,c,b,y,(d.outs [2,1] (by decide) y),(d.envAt 4 y),(d.envAt 2 y),(d.envAt 3 y)⟩)))
 obtain ⟨aD,ab,u⟩:=bt u
 obtain ⟨aE,ac,u⟩:=bt u
 obtain ⟨aF,aw,u⟩:=bt u
 obtain ⟨aG,ad,u⟩:=bt u
 obtain ⟨aH,ae,u⟩:=bt u
 obtain ⟨aI,af,u⟩:=bt u
 obtain ⟨P,ag,u⟩:=bt u
 obtain ⟨aJ,aK,x,z,h,A,B,C,ah,ai,D,E,aj,ak⟩:=ins_B S R o q J (b6l (d.ownAt 0 y)) (b6l (d.ownAt 1 y)) ab ac ad ae af ag
 refine sk (sn0 4 s y fun a s=>?_)
 have al:=grow_slc (p:=p2) (n:=s1.length) (k:=k3) (sz:=5) A.1 A.2 h.2
 obtain ⟨av,d⟩:=d.growRow 0 y h.1 h.2
 refine sv s (U4 m5 o3 y (by exact y) ⟨_,y⟩ al) y fun a s=>rz0 1 s y fun a s=>l3 (sn0 5 s y fun a s=>?_)
 obtain ⟨aL,ay,F⟩:=X9 (α:=Channel) d 0 y x
 refine sv s (U4 m5 o3 y ⟨_,y⟩ (by exact y) F) y fun a s=>sv s (b5Q 1 0 d y y y F underlying27 o3 (by decide) E aj (run_callFunc_extern (e:=Extern.SlicesOverlaps.overlaps #[27,27] #[4]) func100 (by kernel_rfl) (by kernel_rfl) (by kernel_rfl) (by kernel_rfl)) y y y) y fun a s=>rz0 1 s y fun a s=>wp_cond_true (s.ev y) ?_
 refine l3 ?_
 obtain ⟨aM,az,G⟩:=X9 (α:=Channel) d 0 y x
 obtain ⟨aN,aA,H⟩:=X9 (α:=Channel) d 0 y z
 refine C7 (fun a w=>∃ m f,Sl 95 [(0,sl p2 k3 P),(1,iv i6),(2,sl p8 k9 v7)] a∧Wd ⟨w0,S0,J3 [.row p2 s1.length k3 c4 73 5,.row p8 v7.length k9 b 73 5]⟩ m [.row p2 P.length k3 f 73 5,.row p8 v7.length k9 b 73 5] [j6 c4 s1,PuA (Mid c4 f i6.toNat v7.length 5),j6 b v7,a2S v7.length v7] w) ?_ ?_
 ·refine h_c [1] [] d y y (by kernel_rfl) y fun hC d=>gn 4 [0,1,2,3] [] s hC y y y fun a s=>gv s 4 y y hC (fun w hC=>U4 m5 o3 y ⟨_,y⟩ (by exact y) G) fun a s=>gn 2 [5,6] [] s hC y y y fun a s=>gv s 7 y y hC (fun w hC=>U4 m5 o3 y ⟨_,y⟩ (by exact y) H) fun a s=>ho 8 y ?_
  refine w_shift (α:=Channel) (ni:=i6.toNat) (mi:=v7.length) s d 0 y 0 y 4 y m5 m5 o3 (by decide) B C G ah ai H y D y y y j8 ?_
  intro f a w s d
  refine h_n [1] [] d y y fun hC=>q9 (by kernel_rfl) ?_
  exact ⟨S0,f,wj s d [0,1] [5,0,3,2]⟩
 rintro a w ⟨m,f,s,d⟩
 refine tn (sn0 2 s y fun a s=>?_)
 obtain ⟨aO,aB,I⟩:=X9 (α:=Channel) d 0 y z
 refine sv s (U4 m5 o3 y ⟨_,y⟩ (by exact y) I) y fun a s=>mv s y y fun a s=>?_
 obtain ⟨ds_,i⟩:=b6n (d.ownAt 1 y) (d.envAt 2 y)
 refine w_fill (α:=Channel) (ni:=i6.toNat) (mi:=v7.length) s d 0 y 1 y 0 y m5 m5 o3 (by decide) B C E I y D y y i.1 i.2.1 i.2.2 ak y y y j8 ?_
 intro aa a w s d
 refine nl (sz0 2 s y fun a s=>?_)
 obtain rfl:=oi u
 exact t7 (j4 (rt s y (d.ret ⟨p2,k3,aa,b,y,(d.outs [0,1] (by decide) y),(d.envAt 0 y),(d.envAt 3 y),(d.envAt 4 y)⟩)))
abbrev a6P (w0:World) (X:List Nat) (r:(Inventory × Int)):Rd:=fun S w v=>∃ c b a,v=.tuple #[.agg #[sl c b r.1.Channels],iv r.2]∧Outs X w0 S w [.row c r.1.Channels.length b a 73 5]∧(j6 a r.1.Channels).p S w
abbrev a9x:List Value:=[.slice none ([]:List Channel).length 0]
theorem a0p {w0 S0 p2 k3 p6 k7 G c5 r} (u:J4 G c5=some r) (hS:Dm S0 w0) (h4:(Sq p2 k3 G.Channels).p S0 w0) (h8:(Sq p6 k7 c5.Epoch.Response.Stages).p S0 w0):Ck Tryz.prog 14 #[.agg #[sl p2 k3 G.Channels],V43 c5 p6 k7] w0 S0 [] a6P r:=by
 refine en 100 func14 y hS y y y fun a s d=>?_
 have d:=(d.addE h4).addE h8
 refine sr (wb [sl p2 k3 G.Channels] s d y fun b9 a w s d=>?_)
 refine wb (C43 c5 p6 k7) s d y fun z a w s d=>wa a9x s d zeroValue29 fun i a w s d=>rz0 1 s y fun a s=>l3 (sn 2 [2,1] s d y y fun a s=>?_)
 obtain ⟨bu,be,u⟩:=bt u
 refine cV s d (b0E be d.bdom (d.bE 1 y) (d.bE 0 y)) (j3 call47 y) y fun a w s d=>rz0 1 s y fun a s=>cd s u y (fun u=>?_) fun u=>?_
 ·refine sr (sv s (A8 (vs:=[]) a5Q y y) y fun a s=>?_)
  refine ws a9x s d 0 y y y s9 fun a w s d=>rz0 1 s y fun a s=>?_
  obtain rfl:=oi u
  have d:=d.nilRow Channel 73
  exact t7 (j4 (Y7 s y (D8 d 1 y y D4 s9 y) (F3 y) (d.ret ⟨none,0,[],y,(d.outs [0] (by decide) y),(d.envAt 0 y)⟩)))
 refine sk (sn 1 [2] s d y y fun a s=>?_)
 obtain ⟨f,bf,u⟩:=bt u
 have bj:=d.size
 refine cR s (a9H bf d.dom (d.envAt 1 y)) (j3 call48 y) y ?_
 rintro bB aE w a bh ⟨x,n,m,rfl,bi,bg,bk⟩ s
 have d:=((d.callN bh bi).addE (e:=j6 m f.Channels) bg).addE (e:=UqA w0.heap.size m f.Channels) (UqA.le bk bj)
 refine ws [sl x n f.Channels] s d 3 y y y s9 fun a w s d=>nl (sn 3 [3,2] s d y y fun a s=>?_)
 obtain ⟨b,bl,u⟩:=bt u
 refine cV s d (b0F bl d.bdom (d.bRow 0 y 1 y)) (j3 call49 y) y fun a w s d=>rz0 5 s y fun a s=>sz0 1 s y fun a s=>l3 (sz0 1 s y fun a s=>?_)
 refine A7 (fun a w=>∃ (A:(List Epoch)) (P p64 R K:_),U0 c5 f b A=some r∧Sl 100 [(2,pt b9),(3,pt z),(4,pt i),(6,iv b.1),(7,.bool b.2),(8,sl p64 R A)] a∧Wd ⟨w0,S0,[]⟩ K [.box b9 [sl x n f.Channels] 29,.box z (C43 c5 p6 k7) 43,.box i a9x 29,.row x f.Channels.length n m 73 5,.row p64 A.length R P 41 8] [Sq p6 k7 c5.Epoch.Response.Stages,Sq none 0 ([]:List Channel),b0j m f.Channels b.2 b.1,j6 P A] w) ?_ ?_
 ·refine wp_cond_split (s.ev y) (fun q=>?_) (fun q=>?_)
  ·have u:=D7 u q
   refine j9 (rn 3 [3] s d y y fun a s=>?_)
   obtain ⟨ax,ag,u⟩:=bt u
   obtain ⟨bq,bd,br,a6,ah,ai,aj,a5⟩:=d.elemRV (α:=Channel) 0 y 1 y ag
   have am:=s
   have ao:=d
   subst a6
   have s:=am
   have d:=ao
   obtain ⟨_,_,_,_,_,rfl,rfl,rfl,rfl,rfl,⟨aw,bs,ar,rfl,ak⟩⟩:=a5
   obtain rfl:=ak.1
   have d:=d.addE (e:=SlA aw _ ar ax.Epochs) ak
   refine sv s (o7 m5 o3 y y ah.1 ah.2 ai) y fun a s=>sv s (l7 (o':=bd+4) u9 y D2 y y y) y fun a s=>sv s (H5 (j:=4) (d.ownAt 0 y) y F0 aj y) y fun a s=>?_
   obtain ⟨aD,aI,d⟩:=d.unshare y hS 1 y (Nat.le_refl _) ag ai aj q
   have d:=d.addE (Asrt.mono _ (d.keep0 y hS) h4)
   have d:=d.addE (Asrt.mono _ (d.keep0 y hS) h8)
   refine rz0 1 s y fun a s=>?_
   have d:=d.addE (e:=SlA (α:=Channel) none 0 0 []) K9
   exact ⟨ax.Epochs,aI,aw,ar,aD,u,wj s d [4,3,2,1,0] [1,0,4,3]⟩
  have u:=E8 u q
  refine sk ?_
  have d:=((d.nilRow Epoch 41).addE (e:=SlA (α:=Channel) none 0 0 []) K9).toHole 3 y b.1 q
  exact ⟨([]:List Epoch),[],none,0,aE,u,wj s d [4,3,2,1,0] [5,1,0,2]⟩
 rintro a w ⟨A,P,p64,R,K,u,s,d⟩
 refine tn (l3 (sz 3 [1] s d y y fun a s=>?_))
 refine A7 (fun a w=>∃ (B:(List Epoch)) (Q T S L:_),a1e c5 f b B=some r∧Sl 100 [(2,pt b9),(3,pt z),(4,pt i),(6,iv b.1),(7,.bool b.2),(8,sl T S B)] a∧Wd ⟨w0,S0,[]⟩ L [.box b9 [sl x n f.Channels] 29,.box z (C43 c5 p6 k7) 43,.box i a9x 29,.row x f.Channels.length n m 73 5,.row T B.length S Q 41 8] [Sq p6 k7 c5.Epoch.Response.Stages,Sq none 0 ([]:List Channel),b0j m f.Channels b.2 b.1,j6 Q B] w) ?_ ?_
 ·refine cd s u y (fun u=>?_) fun u=>?_
  ·refine sn 3 [1] s d y y fun a s=>?_
   obtain ⟨bo,a0,u⟩:=bt u
   refine cV s d (a6d a0 d.bdom (d.bRow 4 y 3 y)) (j3 call50 y) y fun a w s d=>rz0 1 s y fun a s=>l3 (sz0 2 s y fun a s=>?_)
   refine cd s u y (fun u=>?_) fun u=>?_
   ·refine sr (sv s (A8 (vs:=[]) a5Q y y) y fun a s=>?_)
    refine ws a9x s d 2 y y y s9 fun a w s d=>rz0 1 s y fun a s=>?_
    obtain rfl:=oi u
    have d:=d.nilRow Channel 73
    exact t7 (j4 (j4 (j4 (Y7 s y (D8 d 3 y y D4 s9 y) (F3 y) (d.ret ⟨none,0,[],y,(d.outs [0] (by decide) y),(d.envAt 0 y)⟩)))))
   refine sk (j9 (rn0 4 s y fun a s=>?_))
   obtain ⟨V,a1,u⟩:=bt u
   refine cR s (a3v a1 d.dom (d.ins [4] (by decide) y) (d.envAt 3 y)) (j3 call51 y) y ?_
   rintro bz aC w a a3 ⟨bb,a8,Z,rfl,a4,a2⟩ s
   have d:=(d.callO [4] [0,1,2,3] (by decide) y a3 a4).addE (e:=j6 Z V) a2
   refine rz0 1 s y fun a s=>⟨V,Z,bb,a8,aC,u,wj s d [1,2,3,4,0] [1,2,3,0]⟩
  exact sk ⟨A,P,p64,R,K,u,wj s d [0,1,2,3,4] [0,1,2,3]⟩
 rintro a w ⟨B,Q,T,S,L,u,s,d⟩
 refine tn (l3 (sz 3 [1] s d y y fun a s=>?_))
 refine A7 (fun a w=>∃ (c:(List Epoch)) (M h g N:_),a1f c5 f b c=some r∧Sl 100 [(2,pt b9),(3,pt z),(4,pt i),(6,iv b.1),(7,.bool b.2),(8,sl h g c)] a∧Wd ⟨w0,S0,[]⟩ N [.box b9 [sl x n f.Channels] 29,.box z (C43 c5 p6 k7) 43,.box i a9x 29,.row x f.Channels.length n m 73 5,.row h c.length g M 41 8] [Sq p6 k7 c5.Epoch.Response.Stages,Sq none 0 ([]:List Channel),b0j m f.Channels b.2 b.1,j6 M c] w) ?_ ?_
 ·refine cd s u y (fun u=>?_) fun u=>?_
  ·refine sz0 1 s y fun a s=>sn 3 [1] s d y y fun a s=>?_
   obtain ⟨U,aW,u⟩:=bt u
   refine cR s (b1o aW d.dom (d.ins [4] (by decide) y) (d.envAt 3 y) (d.envAt 0 y)) (j3 call52 y) y ?_
   rintro bx aB w a aY ⟨ba,a7,Y,rfl,aZ,aX⟩ s
   have d:=(d.callO [4] [0,1,2,3] (by decide) y aY aZ).addE (e:=j6 Y U.1) aX
   refine rz0 5 s y fun a s=>sz0 2 s y fun a s=>cd s u y (fun u=>?_) fun u=>?_
   ·refine sr (sv s (A8 (vs:=[]) a5Q y y) y fun a s=>?_)
    refine ws a9x s d 3 y y y s9 fun a w s d=>rz0 1 s y fun a s=>?_
    obtain rfl:=oi u
    have d:=d.nilRow Channel 73
    exact t7 (j4 (j4 (Y7 s y (D8 d 4 y y D4 s9 y) (F3 y) (d.ret ⟨none,0,[],y,(d.outs [0] (by decide) y),(d.envAt 0 y)⟩))))
   exact sk ⟨U.1,Y,ba,a7,aB,u,wj s d [1,2,3,4,0] [1,2,3,0]⟩
  exact sk ⟨B,Q,T,S,L,u,wj s d [0,1,2,3,4] [0,1,2,3]⟩
 rintro a w ⟨c,M,h,g,N,u,s,d⟩
 refine tn (l3 (m6 (sz0 4 s y fun a s=>?_)))
 refine A7 (fun a w=>∃ (k:(List Channel)) (D v t O:_),a1g c k=some r∧Sl 100 [(2,pt b9),(4,pt i),(8,sl h g c)] a∧Wd ⟨w0,S0,[]⟩ O [.box b9 [sl v t k] 29,.box i a9x 29,.row v k.length t D 73 5] [Sq h g c,Sq none 0 ([]:List Channel),j6 D k] w) ?_ ?_
 ·refine cd s u y (fun u=>?_) fun u=>?_
  ·refine j9 (rn 5 [0] s d y y fun a s=>?_)
   obtain ⟨J,aJ,u⟩:=bt u
   refine cR s (a2h aJ y d.dom (d.ins [3] (by decide) y) (d.envAt 2 y)) (j3 call53 y) y ?_
   rintro bv bm w a aL ⟨au,ap,W,rfl,aM,aK⟩ s
   have d:=(d.callO [3] [0,1,2,4] (by decide) y aL aM).addE (e:=j6 W J) aK
   refine sv s (l7 (o':=0) D3 y E4 y y y) y fun a s=>ws [sl au ap J] s d 1 y y y E4 fun a w s d=>nl ?_
   obtain ⟨ay,d⟩:=C8 (α:=Epoch) d 4 y 4 y
   exact ⟨J,W,au,ap,ay,u,wj s d [1,3,0] [0,3,1]⟩
  refine sz0 2 s y fun a s=>A7 (fun a w=>∃ (l:(List Channel)) (E I H C:_),a1h c l=some r∧Sl 100 [(2,pt b9),(4,pt i),(8,sl h g c)] a∧Wd ⟨w0,S0,[]⟩ C [.box b9 [sl I H l] 29,.box i a9x 29,.row I l.length H E 73 5] [Sq h g c,Sq none 0 ([]:List Channel),j6 E l] w) ?_ ?_
  ·refine wp_cond_split (s.ev y) (fun F=>?_) (fun F=>?_)
   ·have u:=D7 u F
    refine j9 (rn 4 [0] s d y y fun a s=>?_)
    obtain ⟨bA,aa,u⟩:=bt u
    obtain ⟨aF,bc,aN,ab,ac⟩:=d.elemHV 3 y aa
    have al:=s
    have an:=d
    subst aN
    have s:=al
    have d:=an
    refine sv s (o7 m5 o3 y y ab.1 ab.2 ac) y fun a s=>sv s (l7 (o':=bc+4) u9 y D2 y y y) y fun a s=>?_
    obtain ⟨a9,ae,u⟩:=bt u
    obtain ⟨az,d⟩:=C8 (α:=Epoch) d 4 y 3 y
    refine b5g s d 3 y 3 y 0 y aa ac y y D2 ae j8 ?_
    intro aG a w s d
    have af:=Y8 ae
    try have s:=s.fl 84 rfl af
    have d:=d.fixB 0 0 y y af
    exact nl ⟨a9,aG,(ad aF),n,az,u,wj s d [0,2,3] [1,3,0]⟩
   have u:=E8 u F
   refine j9 (rn 6 [0,1] s d y y fun a s=>?_)
   refine sv s (A8 (vs:=[(0,V32 c5.Source),(1,sl h g c)]) b1T y y) y fun a s=>?_
   obtain ⟨bn,d⟩:=C8 (α:=Epoch) d 4 y 3 y
   refine q8 (α:=Channel) (vs:=[V73 ⟨c5.Source,c⟩ h g]) (cs:=(C73 ⟨c5.Source,c⟩ h g)) (xs:=([(⟨c5.Source,c⟩:Channel)]:List Channel)) s d a8i y y y y y y ⟨⟨_,_,_,_,_,y,y,y,y,y,⟨_,_,_,y,d.envAt 0 y⟩⟩,y⟩ y j8 y fun bp a w s d=>?_
   obtain ⟨o,aO,u⟩:=bt u
   have d:=d.ofHole 4 y F
   refine cR s (a2r aO d.dom (d.ins [4,0] (by decide) y) (d.envAt 0 y) (d.envAt 1 y)) (j3 call54 y) y ?_
   rintro bw aA w a aS ⟨av,aq,X,aH,rfl,aT,aP,aQ,aR⟩ s
   have d:=((d.callO [4,0] [1,2,3] (by decide) y aS aT).addE (e:=j6 X o.1) aP).addE (e:=j6 aH o.2) aQ
   have aU:=aR
   have aV:=Eq.symm aU
   try have s:=s.fl 67 rfl aV
   refine sv s (l7 (o':=0) D3 y E4 y y y) y fun a s=>ws [sl av aq o.1] s d 2 y y y E4 fun a w s d=>nl ⟨o.1,X,av,aq,aA,u,wj s d [2,4,0] [4,6,1]⟩
  rintro a w ⟨l,E,I,H,C,u,s,d⟩
  exact tn ⟨l,E,I,H,C,u,wj s d [0,1,2] [0,1,2]⟩
 rintro a w ⟨k,D,v,t,O,u,s,d⟩
 refine l9 (tn (l3 (sn 5 [0] s d y y fun a s=>?_)))
 refine rO 4 93 [] s d y y y y y fun a s=>nl (cd s u y (fun u=>?_) fun u=>?_)
 ·refine sr (sv s (A8 (vs:=[]) a5Q y y) y fun a s=>?_)
  refine ws a9x s d 1 y y y s9 fun a w s d=>rz0 1 s y fun a s=>?_
  obtain rfl:=oi u
  have d:=d.nilRow Channel 73
  exact t7 (j4 (Y7 s y (D8 d 2 y y D4 s9 y) (F3 y) (d.ret ⟨none,0,[],y,(d.outs [0] (by decide) y),(d.envAt 0 y)⟩)))
 refine sk (sn 1 [0] s d y y fun a s=>?_)
 refine ws [sl v t k] s d 1 y y y s9 fun a w s d=>rz0 1 s y fun a s=>?_
 obtain rfl:=oi u
 exact t7 (Y7 s y (D8 d 1 y y D4 s9 y) (F3 y) (d.ret ⟨v,t,D,y,(d.outs [2] (by decide) y),(d.envAt 2 y)⟩))
theorem a2q {w0 S0 n1 r} (u:N7 n1=some r) (hS:Dm S0 w0):Ck Tryz.prog 103 #[.slice none 0 0,iv n1] w0 S0 [] H9 r:=by
 refine en 27 func103 y hS y y y fun a s d=>sz0 1 s y fun a s=>l3 (sz0 2 s y fun a s=>?_)
 refine cd s u y (fun u=>?_) fun u=>?_
 ·cases u
 refine sk (l3 (sn0 2 s y fun a s=>?_))
 refine sv s (b5h m5 y) y fun a s=>rn0 4 s y fun a s=>?_
 obtain ⟨n5,h4,u⟩:=bt u
 refine sv s (w9 y h4) y fun a s=>nl (sz0 2 s y fun a s=>?_)
 refine A7 (fun a w=>∃ (b:(List Channel)) (c f e g:_),K5 b=some r∧Sl 27 [(0,sl f e b)] a∧Wd ⟨w0,S0,[]⟩ g [.row f b.length e c 73 5] [j6 c b] w) ?_ ?_
 ·refine cd s u y (fun u=>?_) fun u=>?_
  ·refine j9 (rn0 2 s y fun a s=>?_)
   refine sv s (b5h m5 y) y fun a s=>?_
   obtain ⟨q,j,u⟩:=bt u
   obtain ⟨k,l⟩:=b6o 5 j
   subst k
   refine sv s (U4 m5 o3 y (by exact y) ⟨_,y⟩ l) y fun a s=>mv s y y fun a s=>?_
   obtain ⟨t,m,u⟩:=bt u
   refine b2I (α:=Channel) (z0:=((⟨(⟨ByteArray.empty,ByteArray.empty,ByteArray.empty,ByteArray.empty⟩:SourceID),([]:List Epoch)⟩:Channel):Channel)) s d a8i ⟨_,_,_,_,_,y,y,y,y,y,⟨none,0,0,y,K9⟩⟩ underlying3 y y m y y j8 ?_
   intro p31 p i a w s d
   refine rn0 2 s y fun a s=>?_
   obtain ⟨h,n,u⟩:=bt u
   obtain ⟨d,o⟩:=b2J d 0 y 0 y n
   refine sv s (U4 m5 o3 y (by exact y) ⟨_,y⟩ o) y fun a s=>rz0 1 s y fun a s=>⟨h,(i.take (h.length * 5)),p31,p,S0,u,wj s d [0] [0]⟩
  refine sk ?_
  have d:=d.nilRow Channel 73
  exact ⟨([]:List Channel),[],none,0,S0,u,wj s d [0] [0]⟩
 rintro a w ⟨b,c,f,e,g,u,s,d⟩
 refine tn (sz0 2 s y fun a s=>?_)
 obtain rfl:=oi u
 exact q1 s y (d.ret ⟨f,e,c,y,(d.outs [0] (by decide) y),(d.envAt 0 y)⟩)
theorem a2p {w0 S0 p2 k3 b r} (u:M8 b=some r) (hS:Dm S0 w0) (h4:(Sq p2 k3 b).p S0 w0):Ck Tryz.prog 56 #[sl p2 k3 b] w0 S0 [] H9 r:=by
 refine en 36 func56 y hS y y y fun a s d=>?_
 have d:=d.addE h4
 refine sz0 1 s y fun a s=>sz0 1 s y fun a s=>l3 (sz0 3 s y fun a s=>?_)
 obtain ⟨ap,E,u⟩:=bt u
 refine A7 (fun a w=>∃ v,Sl 36 [(0,sl p2 k3 b),(3,iv ap)] a∧Wd ⟨w0,S0,[]⟩ v [] [Sq p2 k3 b] w) ?_ ?_
 ·refine m6 (u7 (fun J a w=>∃ g,Sl 36 [(0,sl p2 k3 b),(3,iv J.1),(9,sl p2 k3 b),(10,iv (b.length:Int)),(11,iv J.2)] a∧Wd ⟨w0,S0,[]⟩ g [] [Sq p2 k3 b] w) (0,0) E ⟨S0,wj s d [] [0]⟩ ?_)
  clear E
  repeat clear u
  rintro J a w aF ⟨g,s,d⟩ u ad
  refine sz0 1 s y fun a s=>l3 (cd s u y (fun u=>?_) fun u=>?_)
  ·refine sk (l3 (m6 (sr ?_)))
   obtain ⟨am,aq,u⟩:=bt u
   obtain ⟨aw,aB,aD,ay,P,z,N,O,ar⟩:=d.elemV 0 y aq
   have F:=s
   have H:=d
   subst P
   have s:=F
   have d:=H
   obtain ⟨_,rfl,⟨ai,n112,ae,rfl,A⟩⟩:=ar
   obtain rfl:=A.1
   have d:=(d.addE (e:=SlA ai _ ae am) A).addE O
   refine sv s (o7 I3 E4 y y z.1 z.2 N) y fun a s=>sv s (F5 (j:=0) (d.ceAt 0 y) y I2 y) y fun a s=>rz0 1 s y fun a s=>sn0 4 s y fun a s=>?_
   obtain ⟨ao,Q,u⟩:=bt u
   refine sv s (w9 y Q) y fun a s=>nl (sz0 2 s y fun a s=>?_)
   refine cd s u y (fun u=>?_) fun u=>?_
   ·cases u
   refine D1 (l9 (tn (j9 (rz0 2 s y fun a s=>?_))))
   exact ⟨_,io u,g,wj s d [] [2]⟩
  refine u0 (j5 (j5 (o9 ?_)))
  obtain rfl:=oi u
  have R:=ad _ y
  subst R
  exact tn ⟨g,wj s d [] [0]⟩
 rintro a w ⟨v,s,d⟩
 refine tn (sn0 1 s y fun a s=>?_)
 obtain ⟨t,S,u⟩:=bt u
 refine cR s (a2q S d.dom) (j3 call103 y) y ?_
 rintro aG K w a U ⟨aj,af,x,rfl,V,T⟩ s
 have d:=(d.callN U V).addE (e:=j6 x t) T
 refine rz0 1 s y fun a s=>l3 (sz0 3 s y fun a s=>?_)
 obtain ⟨o,D,u⟩:=bt u
 refine A7 (fun a w=>∃ i n l q,Sl 36 [(6,sl n l o)] a∧Wd ⟨w0,S0,[]⟩ q [.row n o.length l i 73 5] [j6 i o] w) ?_ ?_
 ·refine m6 (u7 (fun c a w=>∃ h m k f,Sl 36 [(6,sl m k c.1),(25,sl p2 k3 b),(26,iv (b.length:Int)),(27,iv c.2)] a∧Wd ⟨w0,S0,[]⟩ f [.row m c.1.length k h 73 5] [Sq p2 k3 b,j6 h c.1] w) (t,0) D ⟨x,aj,af,K,wj s d [0] [1,0]⟩ ?_)
  clear D
  repeat clear u
  rintro c a w au ⟨h,m,k,f,s,d⟩ u L
  refine sz0 1 s y fun a s=>l3 (cd s u y (fun u=>?_) fun u=>?_)
  ·refine sk (l3 (m6 (sr ?_)))
   obtain ⟨an,W,u⟩:=bt u
   obtain ⟨ax,aC,aE,az,aa,B,Y,Z,X⟩:=d.elemV 0 y W
   have G:=s
   have I:=d
   subst aa
   have s:=G
   have d:=I
   obtain ⟨_,rfl,⟨ak,n256,ag,rfl,C⟩⟩:=X
   obtain rfl:=C.1
   have d:=(d.addE (e:=SlA ak _ ag an) C).addE Z
   refine sv s (o7 I3 E4 y y B.1 B.2 Y) y fun a s=>sv s (F5 (j:=0) (d.ceAt 0 y) y I2 y) y fun a s=>rz0 1 s y fun a s=>j9 (rn0 2 s y fun a s=>?_)
   obtain ⟨aA,ab,u⟩:=bt u
   refine R4 (α:=Channel) s d a8i 0 y y y 3 y 1 y ab y j8 ?_
   intro al ah M a w s d
   refine av s y y fun a s=>l4 ?_
   refine l9 (tn (j9 (rz0 2 s y fun a s=>?_)))
   exact ⟨_,io u,M,al,ah,f,wj s d [0] [3,0]⟩
  refine u0 (j5 (j5 (o9 ?_)))
  obtain rfl:=oi u
  have ac:=L _ y
  subst ac
  exact tn ⟨h,m,k,f,wj s d [0] [1]⟩
 rintro a w ⟨i,n,l,q,s,d⟩
 refine tn (sz0 2 s y fun a s=>?_)
 obtain rfl:=oi u
 exact q1 s y (d.ret ⟨n,l,i,y,(d.outs [0] (by decide) y),(d.envAt 0 y)⟩)
abbrev J8 (w0:World) (X:List Nat) (r:(List SourceID)):Rd:=fun S w v=>∃ c b a,v=sl c b r∧Outs X w0 S w [.row c r.length b a 32 4]∧(j6 a r).p S w
theorem a2g {w0 S0 p2 k3 s1 r} (u:M3 s1=some r) (hS:Dm S0 w0) (h4:(Sq p2 k3 s1).p S0 w0):Ck Tryz.prog 104 #[sl p2 k3 s1] w0 S0 [] J8 r:=by
 refine en 8 func104 y hS y y y fun a s d=>?_
 have d:=d.addE h4
 delta M3 at u
 refine sz0 1 s y fun a s=>l3 (sn0 1 s y fun a s=>?_)
 refine sv s (b0g v8 y y) y fun a s=>nl ?_
 have b:=s
 have c:=d
 rcases p2 with _ | i
 ·have s:=b
  have d:=c
  obtain rfl:=b2z (d.envAt 0 y)
  have u:some ([]:List SourceID)=some r:=by simpa [T9,maxLen] using u
  refine wp_cond_true (s.ev y) ?_
  refine sz0 1 s y fun a s=>?_
  obtain rfl:=oi u
  have d:=d.nilRow SourceID 32
  exact t7 (j4 (rt s y (d.ret ⟨none,0,[],y,(d.outs [0] (by decide) y),(d.envAt 0 y)⟩)))
 have s:=b
 have d:=c
 refine wp_cond_false (s.ev y) ?_
 refine sk (sr (a1j (α:=SourceID) (vs:=[]) (cs:=[]) (xs:=([]:List SourceID)) s d b1X y y y y y y y y j8 fun p9 a w s d=>?_))
 refine mv s y y fun a s=>?_
 obtain ⟨j,f,u⟩:=bt u
 refine R4 (α:=SourceID) s d b1X 0 y y y 0 y 1 y f y j8 ?_
 intro h g e a w s d
 refine rz0 1 s y fun a s=>?_
 obtain rfl:=oi u
 exact q1 s y (d.ret ⟨h,g,e,y,(d.outs [0] (by decide) y),(d.envAt 0 y)⟩)
end Go.Proofs.YteanekphncdhiaaGreat.Wk
namespace Go.Proofs
open Go Go.Shelf Go.RowKit Go.Lib Go.Sort
def Tryz.sort105_ren:Go.Shelf.Ren:=⟨fun | 6=>105 | 15=>132 | 14=>134 | 28=>157 | 29=>158 | 20=>160 | 21=>161 | 22=>162 | 23=>163 | 24=>164 | 25=>165 | 26=>166 | 27=>167 | 46=>188 | 47=>184 | 48=>185 | 49=>189 | 50=>190 | 57=>197 | n=>n,fun | 22=>60 | 24=>32 | 25=>116 | 3=>3 | 39=>165 | 0=>0 | 53=>188 | 55=>190 | 4=>4 | 46=>182 | 45=>181 | 50=>101 | 5=>5 | 9=>9 | 66=>204 | 70=>208 | 76=>216 | 77=>127 | n=>n,fun | n=>n⟩
theorem Tryz.sort105:Go.Proofs.SlLaysF0.n6 Tryz.prog Tryz.sort105_ren where
  mixed:=by kernel_rfl
  f6:=⟨Tryz.f105.name,by decide,Tryz.func105.trans (congrArg some (by kernel_rfl))⟩
  f14:=⟨Tryz.f134.name,by decide,Tryz.func134.trans (congrArg some (by kernel_rfl))⟩
  f15:=Tryz.func132.trans (congrArg some (by kernel_rfl))
  f20:=⟨Tryz.f160.name,by decide,Tryz.func160.trans (congrArg some (by kernel_rfl))⟩
  f21:=⟨Tryz.f161.name,by decide,Tryz.func161.trans (congrArg some (by kernel_rfl))⟩
  f22:=⟨Tryz.f162.name,by decide,Tryz.func162.trans (congrArg some (by kernel_rfl))⟩
  f23:=⟨Tryz.f163.name,by decide,Tryz.func163.trans (congrArg some (by kernel_rfl))⟩
  f24:=⟨Tryz.f164.name,by decide,Tryz.func164.trans (congrArg some (by kernel_rfl))⟩
  f25:=⟨Tryz.f165.name,by decide,Tryz.func165.trans (congrArg some (by kernel_rfl))⟩
  f26:=⟨Tryz.f166.name,by decide,Tryz.func166.trans (congrArg some (by kernel_rfl))⟩
  f27:=⟨Tryz.f167.name,by decide,Tryz.func167.trans (congrArg some (by kernel_rfl))⟩
  f28:=Tryz.func157.trans (congrArg some (by kernel_rfl))
  f29:=Tryz.func158.trans (congrArg some (by kernel_rfl))
  f46:=⟨Tryz.f188.name,by decide,Tryz.func188.trans (congrArg some (by kernel_rfl))⟩
  f47:=Tryz.func184.trans (congrArg some (by kernel_rfl))
  f48:=Tryz.func185.trans (congrArg some (by kernel_rfl))
  f49:=⟨Tryz.f189.name,by decide,Tryz.func189.trans (congrArg some (by kernel_rfl))⟩
  f50:=⟨Tryz.f190.name,by decide,Tryz.func190.trans (congrArg some (by kernel_rfl))⟩
  f57:=⟨Tryz.f197.name,by decide,Tryz.func197.trans (congrArg some (by kernel_rfl))⟩
  t0:=Tryz.underlying0
  a0:=Tryz.isAgg0
  z0:=Tryz.sizeOf0
  v0:=Tryz.zeroValue0
  t3:=Tryz.underlying3
  a3:=Tryz.isAgg3
  z3:=Tryz.sizeOf3
  v3:=Tryz.zeroValue3
  t4:=Tryz.underlying4
  a4:=Tryz.isAgg4
  z4:=Tryz.sizeOf4
  v4:=Tryz.zeroValue4
  t5:=Tryz.underlying5
  a5:=Tryz.isAgg5
  z5:=Tryz.sizeOf5
  v5:=Tryz.zeroValue5
  t9:=Tryz.underlying9
  a9:=Tryz.isAgg9
  z9:=Tryz.sizeOf9
  v9:=Tryz.zeroValue9
  t22:=Tryz.underlying60
  a22:=Tryz.isAgg60
  z22:=Tryz.sizeOf60
  v22:=Tryz.zeroValue60
  t25:=Tryz.underlying116
  a25:=Tryz.isAgg116
  z25:=Tryz.sizeOf116
  v25:=Tryz.zeroValue116
  t39:=Tryz.underlying165
  a39:=Tryz.isAgg165
  z39:=Tryz.sizeOf165
  v39:=Tryz.zeroValue165
  t45:=Tryz.underlying181
  a45:=Tryz.isAgg181
  z45:=Tryz.sizeOf181
  v45:=Tryz.zeroValue181
  t46:=Tryz.underlying182
  a46:=Tryz.isAgg182
  z46:=Tryz.sizeOf182
  v46:=Tryz.zeroValue182
  t50:=Tryz.underlying101
  a50:=Tryz.isAgg101
  z50:=Tryz.sizeOf101
  v50:=Tryz.zeroValue101
  t53:=Tryz.underlying188
  a53:=Tryz.isAgg188
  z53:=Tryz.sizeOf188
  v53:=Tryz.zeroValue188
  t55:=Tryz.underlying190
  a55:=Tryz.isAgg190
  z55:=Tryz.sizeOf190
  v55:=Tryz.zeroValue190
  t66:=Tryz.underlying204
  a66:=Tryz.isAgg204
  z66:=Tryz.sizeOf204
  v66:=Tryz.zeroValue204
  t70:=Tryz.underlying208
  a70:=Tryz.isAgg208
  z70:=Tryz.sizeOf208
  v70:=Tryz.zeroValue208
  t76:=Tryz.underlying216
  a76:=Tryz.isAgg216
  z76:=Tryz.sizeOf216
  v76:=Tryz.zeroValue216
  t77:=Tryz.underlying127
  a77:=Tryz.isAgg127
  z77:=Tryz.sizeOf127
  v77:=Tryz.zeroValue127
end Go.Proofs
namespace Go.Proofs.YteanekphncdhiaaGreat.Wk
open Go Go.RowKit Go.Proofs Go.Proofs.YteanekphncdhiaaGreat.Sh Go.Proofs.Tryz
set_option linter.unusedVariables false
set_option linter.unusedSimpArgs false
abbrev a1s (w0:World) (X:List Nat) (p2:Option Addr) (k3:Nat) (x1:(List SourceID)) (r:(List SourceID)):(Nat→Prop)→World→Value→Prop:=fun S w v=>∃ a,v=.tuple #[]∧Outs X w0 S w [.row p2 r.length k3 a 32 4]∧(j6 a r).p S w∧(a2S x1.length r).p S w
theorem a1r {w0 S0 p2 k3 c4 g7 a x1} {cmp6:SourceID→SourceID→Option Int} {r} (u:Q6 x1 cmp6=some r) (hS:Dm S0 w0) (hin:Ins S0 w0 [.row p2 x1.length k3 c4 32 4]) (h5:(j6 c4 x1).p S0 w0) (b:(a8j Tryz.prog g7 [] a cmp6).p S0 w0):Calls Tryz.prog 105 #[sl p2 k3 x1,.func (.func g7) #[] a.toArray] w0 (Ret (J3 [.row p2 x1.length k3 c4 32 4]) w0 S0 (a1s w0 (J3 [.row p2 x1.length k3 c4 32 4]) p2 k3 x1 r)):=by
 exact b3w (α:=SourceID) (T:=32) Tryz.sort105 B9 s6 (fun _=>rfl) (by decide) (fun d=>(C32 d)) (by rintro S w cs d ⟨_,_,_,_,rfl,rfl,rfl,rfl,rfl⟩;rfl) u hS hin h5 b
theorem b0J (S0:Nat→Prop) (w0:World):(a8j Tryz.prog 92 [] [] a0m).p S0 w0:=by
  refine ⟨call92,?_⟩
  rintro S1 w1 hk hS c0 c1 x0 x1 r1 ⟨_,_,_,_,rfl,rfl,rfl,rfl,rfl⟩ h1 hf
  obtain ⟨_,_,_,_,rfl,rfl,rfl,rfl,rfl⟩:=h1
  exact a4W hf hS
theorem a1N {w0 S0 p2 k3 c4 s1 r} (u:Q8 s1=some r) (hS:Dm S0 w0) (hin:Ins S0 w0 [.row p2 s1.length k3 c4 32 4]) (h5:(j6 c4 s1).p S0 w0):Ck Tryz.prog 106 #[sl p2 k3 s1] w0 S0 (J3 [.row p2 s1.length k3 c4 32 4]) J8 r:=by
 refine enI 61 func106 y hS hin y y y fun a s d=>?_
 have d:=(d.addE h5).addE (e:=a2S s1.length s1) a6M
 refine sz0 1 s y fun a s=>l3 (sz0 3 s y fun a s=>?_)
 refine cd s u y (fun u=>?_) fun u=>?_
 ·refine sz0 2 s y fun a s=>?_
  obtain rfl:=oi u
  exact t7 (j4 (rt s y (d.ret ⟨p2,k3,c4,y,(d.outs [0] (by decide) y),(d.envAt 1 y)⟩)))
 refine sk (l3 (sz0 1 s y fun a s=>?_))
 refine m6 (u7 (fun t a w=>∃ B,Sl 61 [(0,sl p2 k3 s1),(3,iv t)] a∧Wd ⟨w0,S0,J3 [.row p2 s1.length k3 c4 32 4]⟩ B [.row p2 s1.length k3 c4 32 4] [j6 c4 s1,a2S s1.length s1] w) 1 u ⟨S0,wj s d [0] [1,0]⟩ ?_)
 repeat clear u
 rintro t a w aW ⟨B,s,d⟩ u M
 refine l3 (sz0 4 s y fun a s=>?_)
 refine cd s u y (fun u=>?_) fun u=>?_
 ·refine sk (l3 (m6 (l3 ?_)))
  obtain ⟨v,ac,u⟩:=bt u
  obtain ⟨c,a7,aX,ai,af,ag,ah,ae⟩:=d.elemRV (α:=SourceID) 0 y 0 y ac
  have W:=s
  have X:=d
  subst ai
  have s:=W
  have d:=X
  obtain ⟨_,_,_,_,rfl,rfl,rfl,rfl,rfl⟩:=ae
  obtain ⟨x,aj,u⟩:=bt u
  obtain ⟨a8,aY,al,am,an,ak⟩:=d.elemRK (α:=SourceID) 0 y 0 y aj
  obtain ⟨_,_,_,_,rfl,rfl,rfl,rfl,rfl⟩:=ak
  refine C7 (fun a w=>∃ h,Sl 61 [(0,sl (ad c) k3 s1),(3,iv t),(25,.bool ((v.Network == x.Network) && ((v.Station == x.Station) && ((v.Location == x.Location) && ((v.Channel == x.Channel) && true)))))] a∧Wd ⟨w0,S0,J3 [.row (ad c) s1.length k3 c4 32 4]⟩ h [.row (ad c) s1.length k3 c4 32 4] [j6 c4 s1,a2S s1.length s1] w) ?_ ?_
  ·refine h_c [0] [] d y y (by kernel_rfl) y fun hC d=>gn 2 [0,1] [] s hC y y y fun a s=>gx s 2 y j8 y hC v8 s6 y y af ag fun a s=>gv s 3 y y hC (fun w hC=>I4 (j:=0) (hC.ownAt 0 y) y B9 s6 ah y y) fun a s=>gn 3 [4,5,6] [] s hC y y y fun a s=>gx s 7 y j8 y hC v8 s6 y y al am fun a s=>gv s 8 y y hC (fun w hC=>I4 (j:=0) (hC.ownAt 0 y) y B9 s6 an y y) fun a s=>gv s 9 y y hC (fun w hC=>a0E (by kernel_rfl) y y (M5 B8 (by kernel_rfl) (EqF.cons1 y B0 y y (D9 m7) (EqF.cons1 y B0 y y (D9 m7) (EqF.cons1 y B0 y y (D9 m7) (EqF.cons1 y B0 y y (D9 m7) EqF.nil)))))) fun a s=>q9 (by kernel_rfl) ?_
   exact ⟨B,wj s d [0] [0,1]⟩
  rintro a w ⟨h,s,d⟩
  refine tn (cd s u y (fun u=>?_) fun u=>?_)
  ·refine sn0 2 s y fun a s=>?_
   obtain ⟨J,ao,u⟩:=bt u
   obtain ⟨K,H,n⟩:=b5K (α:=SourceID) d 0 y ao
   refine sv s (U4 v8 s6 y ⟨_,y⟩ (by exact y) n) y fun a s=>rz0 1 s y fun a s=>l3 (sz0 1 s y fun a s=>?_)
   obtain ⟨l,U,u⟩:=bt u
   refine A7 (fun a w=>∃ D L,Sl 61 [(0,sl (ad c) k3 l.1),(3,iv l.2)] a∧Wd ⟨w0,S0,J3 [.row (ad c) s1.length k3 c4 32 4]⟩ L [.row (ad c) l.1.length k3 D 32 4] [j6 D l.1,a2S s1.length l.1] w) ?_ ?_
   ·refine m6 (u7 (fun b a w=>∃ g i,Sl 61 [(0,sl (ad c) k3 b.1),(3,iv b.2.1),(4,sl (some ⟨c,K,none⟩) H J),(5,iv b.2.2)] a∧Wd ⟨w0,S0,J3 [.row (ad c) s1.length k3 c4 32 4]⟩ i [.row (ad c) b.1.length k3 g 32 4] [j6 g b.1,a2S s1.length b.1] w) (s1,t,1) U ⟨c4,h,wj s d [0] [0,1]⟩ ?_)
    clear U
    repeat clear u
    rintro b a w Z ⟨g,i,s,d⟩ u Y
    refine l3 (sz0 4 s y fun a s=>?_)
    refine cd s u y (fun u=>?_) fun u=>?_
    ·refine sk (l3 (m6 (l3 ?_)))
     obtain ⟨z,ap,u⟩:=bt u
     obtain ⟨a9,aZ,ar,au,av,aq⟩:=d.elemLK (α:=SourceID) 0 y 0 y n ap
     obtain ⟨_,_,_,_,rfl,rfl,rfl,rfl,rfl⟩:=aq
     obtain ⟨A,aw,u⟩:=bt u
     obtain ⟨ba,a0,ay,az,aA,ax⟩:=d.elemLK (α:=SourceID) 0 y 0 y n aw
     obtain ⟨_,_,_,_,rfl,rfl,rfl,rfl,rfl⟩:=ax
     refine C7 (fun a w=>∃ k,Sl 61 [(0,sl (ad c) k3 b.1),(3,iv b.2.1),(4,sl (some ⟨c,K,none⟩) H J),(5,iv b.2.2),(44,.bool (!((z.Network == A.Network) && ((z.Station == A.Station) && ((z.Location == A.Location) && ((z.Channel == A.Channel) && true))))))] a∧Wd ⟨w0,S0,J3 [.row (ad c) s1.length k3 c4 32 4]⟩ k [.row (ad c) b.1.length k3 g 32 4] [j6 g b.1,a2S s1.length b.1] w) ?_ ?_
     ·refine h_c [0] [] d y y (by kernel_rfl) y fun hC d=>gn 2 [0,1] [] s hC y y y fun a s=>gx s 2 y j8 y hC v8 s6 y y ar au fun a s=>gv s 3 y y hC (fun w hC=>I4 (j:=0) (hC.ownAt 0 y) y B9 s6 av y y) fun a s=>gn 3 [4,5,6] [] s hC y y y fun a s=>gx s 7 y j8 y hC v8 s6 y y ay az fun a s=>gv s 8 y y hC (fun w hC=>I4 (j:=0) (hC.ownAt 0 y) y B9 s6 aA y y) fun a s=>gv s 9 y y hC (fun w hC=>a8T (by kernel_rfl) y y (M5 B8 (by kernel_rfl) (EqF.cons1 y B0 y y (D9 m7) (EqF.cons1 y B0 y y (D9 m7) (EqF.cons1 y B0 y y (D9 m7) (EqF.cons1 y B0 y y (D9 m7) EqF.nil)))))) fun a s=>q9 (by kernel_rfl) ?_
      exact ⟨i,wj s d [0] [0,1]⟩
     rintro a w ⟨k,s,d⟩
     refine tn (A7 (fun a w=>∃ (f:(List SourceID)) (I:Int) (m C:_),O9 b f I=some Z∧Sl 61 [(0,sl (ad c) k3 f),(3,iv I),(4,sl (some ⟨c,K,none⟩) H J),(5,iv b.2.2)] a∧Wd ⟨w0,S0,J3 [.row (ad c) s1.length k3 c4 32 4]⟩ C [.row (ad c) f.length k3 m 32 4] [j6 m f,a2S s1.length f] w) ?_ ?_)
     ·refine cd s u y (fun u=>?_) fun u=>?_
      ·refine sn0 4 s y fun a s=>?_
       obtain ⟨bd,aC,u⟩:=bt u
       obtain ⟨bb,a1,N,aE,aF,aD⟩:=d.elemLK (α:=SourceID) 0 y 0 y n aC
       obtain ⟨_,_,_,_,rfl,rfl,rfl,rfl,rfl⟩:=aD
       refine sv s (o7 v8 s6 y y N.1 N.2 aE) y fun a s=>sv s (I4 (j:=0) (d.ownAt 0 y) y B9 s6 aF y y) y fun a s=>?_
       obtain ⟨be,aG,u⟩:=bt u
       obtain ⟨bc,a2,O,P,a3,aH⟩:=d.elemRK (α:=SourceID) 0 y 0 y aG
       obtain ⟨_,_,_,_,rfl,rfl,rfl,rfl,rfl⟩:=aH
       refine sv s (o7 v8 s6 y y O.1 O.2 P) y fun a s=>?_
       obtain ⟨V,E,u⟩:=bt u
       have aI:=d.envAt 1 y
       refine a5d (α:=SourceID) s d 0 y 0 y P y y s6 y E ⟨_,_,_,_,y,y,y,y,y⟩ j8 ?_
       intro aa a w s d
       have d:=d.addE (e:=a2S s1.length V) (b6e (w:=w) (S:=S0) aI E)
       have Q:=Y8 E
       try have s:=s.fl 0 rfl Q
       try have s:=s.fl 45 rfl Q
       refine nl (j9 (rn0 2 s y fun a s=>?_))
       obtain ⟨aQ,aJ,u⟩:=bt u
       refine sv s (w9 y aJ) y fun a s=>nl ⟨V,aQ,aa,k,u,wj s d [0] [1,0]⟩
      exact sk ⟨b.1,b.2.1,g,k,u,wj s d [0] [0,1]⟩
     rintro a w ⟨f,I,m,C,u,s,d⟩
     refine l9 (tn (j9 (rn0 2 s y fun a s=>?_)))
     obtain ⟨aU,aB,u⟩:=bt u
     refine sv s (w9 y aB) y fun a s=>nl ⟨_,io u,m,C,wj s d [0] [0,1]⟩
    refine u0 (j5 (j5 (o9 ?_)))
    obtain rfl:=oi u
    have aK:=Y _ y
    subst aK
    exact tn ⟨g,i,wj s d [0] [0,1]⟩
   rintro a w ⟨D,L,s,d⟩
   refine tn (sn0 2 s y fun a s=>?_)
   obtain ⟨aR,o,u⟩:=bt u
   obtain ⟨a6,a4,R⟩:=X9 (α:=SourceID) d 0 y o
   refine sv s (U4 v8 s6 y ⟨_,y⟩ (by exact y) R) y fun a s=>?_
   obtain ⟨aS,F,u⟩:=bt u
   have aL:=d.envAt 1 y
   refine b0N (α:=SourceID) (z0:=((⟨ByteArray.empty,ByteArray.empty,ByteArray.empty,ByteArray.empty⟩:SourceID):SourceID)) s d 0 y 0 y b1X ⟨_,_,_,_,y,y,y,y,y⟩ o R y j8 ?_
   intro ab a w s d
   rw [Option.some.inj F] at d
   have d:=d.addE (e:=a2S s1.length aS) (by have q:=b4I (w:=w) (S:=S0) (S':=S0) (w':=w) (ys:=List.replicate aR.length ((⟨ByteArray.empty,ByteArray.empty,ByteArray.empty,ByteArray.empty⟩:SourceID):SourceID)) aL o;rw [Option.some.inj F] at q;exact q)
   have T:=(a5k o F)
   try have s:=s.fl 0 rfl T
   try have s:=s.fl 54 rfl T
   refine nl (sn0 2 s y fun a s=>?_)
   obtain ⟨aT,aM,u⟩:=bt u
   obtain ⟨d,aN⟩:=b2J d 0 y 1 y aM
   refine sv s (U4 v8 s6 y (by exact y) ⟨_,y⟩ aN) y fun a s=>rz0 1 s y fun a s=>?_
   obtain rfl:=oi u
   have aO:=M _ y
   subst aO
   exact t7 (o8 (j4 (j4 (o8 (j4 (rt s y (d.ret ⟨(ad c),k3,(ab.take (aT.length * 4)),y,(d.outs [0] (by decide) y),(d.envAt 0 y)⟩)))))))
  refine D1 (l9 (tn (j9 (rn0 2 s y fun a s=>?_))))
  obtain ⟨a5,aP,u⟩:=bt u
  refine sv s (w9 y aP) y fun a s=>nl ⟨_,io u,h,wj s d [0] [0,1]⟩
 obtain ⟨aV,u,G⟩:=X5 u
 have G:=(M _ G.symm).symm
 subst G
 refine u0 (j5 (j5 (o9 (tn (sz0 2 s y fun a s=>?_)))))
 obtain rfl:=oi u
 exact q1 s y (d.ret ⟨p2,k3,c4,y,(d.outs [0] (by decide) y),(d.envAt 0 y)⟩)
theorem b2B {w0 S0 p2 k3 l1 r} (u:a6R l1=some r) (hS:Dm S0 w0) (h4:(Sq p2 k3 l1).p S0 w0):Ck Tryz.prog 57 #[sl p2 k3 l1] w0 S0 [] J8 r:=by
 refine en 10 func57 y hS y y y fun a s d=>?_
 have d:=d.addE h4
 refine sz0 1 s y fun a s=>sn0 1 s y fun a s=>?_
 obtain ⟨C,h5,u⟩:=bt u
 refine cR s (a2g h5 d.dom (d.envAt 0 y)) (j3 call104 y) y ?_
 rintro G D w a j ⟨p7,k8,h,rfl,k,h9⟩ s
 have d:=(d.callN j k).addE (e:=j6 h C) h9
 refine rz0 1 s y fun a s=>sn0 1 s y fun a s=>?_
 obtain ⟨f,l,u⟩:=bt u
 refine cR s (a1r l d.dom (d.ins [0] (by decide) y) (d.envAt 0 y) (b0J _ _)) (j3 call105 y) y ?_
 rintro H E w a o ⟨i,rfl,q,m,n⟩ s
 have d:=(d.callO [0] [] (by decide) y o q).addE (e:=j6 i f) m
 have t:=n
 have c:=Eq.symm t
 try have s:=s.fl 3 rfl c
 try have s:=s.fl 6 rfl c
 refine nl (sn0 1 s y fun a s=>?_)
 obtain ⟨g,v,u⟩:=bt u
 refine cR s (a1N v d.dom (d.ins [0] (by decide) y) (d.envAt 0 y)) (j3 call106 y) y ?_
 rintro I F w a z ⟨p32,B,b,rfl,A,x⟩ s
 have d:=(d.callO [0] [] (by decide) y z A).addE (e:=j6 b g) x
 refine rz0 1 s y fun a s=>?_
 obtain rfl:=oi u
 exact q1 s y (d.ret ⟨p32,B,b,y,(d.outs [0] (by decide) y),(d.envAt 0 y)⟩)
abbrev b0p (w0:World) (X:List Nat) (r:(Channel × Bool)):Rd:=fun S w v=>∃ c b a,v=.tuple #[V73 r.1 c b,.bool r.2]∧Outs X w0 S w [.row c r.1.Epochs.length b a 41 8]∧(j6 a r.1.Epochs).p S w
theorem a4F {w0 S0 p2 k3 b s5 r} (u:a1C b s5=some r) (hS:Dm S0 w0) (h4:(Sq p2 k3 b.Channels).p S0 w0):Ck Tryz.prog 58 #[.agg #[sl p2 k3 b.Channels],V32 s5] w0 S0 [] b0p r:=by
 refine en 23 func58 y hS y y y fun a s d=>?_
 have d:=d.addE h4
 refine sr (wb [sl p2 k3 b.Channels] s d y fun b6 a w s d=>?_)
 refine wb (C32 s5) s d y fun b7 a w s d=>wa Z2 s d zeroValue73 fun b8 a w s d=>rz0 1 s y fun a s=>l3 (sz 4 [2] s d y y fun a s=>?_)
 refine m6 ?_
 have d:=d.addE (e:=SlA (α:=Epoch) none 0 0 []) K9
 refine u7 (fun i a w=>∃ c,Sl 23 [(3,pt b7),(4,pt b8),(9,sl p2 k3 b.Channels),(10,iv (b.Channels.length:Int)),(11,iv i)] a∧Wd ⟨w0,S0,[]⟩ c [.box b7 (C32 s5) 32,.box b8 Z2 73] [Sq p2 k3 b.Channels,Sq none 0 ([]:List Epoch)] w) 0 u ⟨S0,wj s d [1,0] [1,0]⟩ ?_
 repeat clear u
 rintro i a w M ⟨c,s,d⟩ u g
 refine sz0 1 s y fun a s=>l3 (cd s u y (fun u=>?_) fun u=>?_)
 ·refine sk (l3 (m6 (sr ?_)))
  obtain ⟨z,A,u⟩:=bt u
  obtain ⟨N,Q,R,P,E,l,C,D,B⟩:=d.elemV 0 y A
  have n:=s
  have o:=d
  subst E
  have s:=n
  have d:=o
  obtain ⟨_,_,_,_,_,rfl,rfl,rfl,rfl,rfl,⟨v,n260,q,rfl,m⟩⟩:=B
  obtain rfl:=m.1
  have d:=(d.addE (e:=SlA v _ q z.Epochs) m).addE D
  refine sv s (o7 m5 o3 y y l.1 l.2 C) y fun a s=>sv s (D5 (j:=0) (d.ceAt 0 y) y F2 o3 y y) y fun a s=>wa Z2 s d zeroValue73 fun O a w s d=>ws (C73 z v q) s d 0 y y y o3 fun a w s d=>nl (sn 3 [0,1] s d y y fun a s=>?_)
  refine sv s (a0E (by kernel_rfl) y y (M5 B8 (by kernel_rfl) (EqF.cons1 y B0 y y (D9 m7) (EqF.cons1 y B0 y y (D9 m7) (EqF.cons1 y B0 y y (D9 m7) (EqF.cons1 y B0 y y (D9 m7) EqF.nil)))))) y fun a s=>nl (cd s u y (fun u=>?_) fun u=>?_)
  ·refine sn 1 [0] s d y y fun a s=>?_
   obtain ⟨h,F,u⟩:=bt u
   refine cR s (a3B F d.dom (d.envAt 1 y)) (j3 call89 y) y ?_
   rintro S K w a H ⟨x,t,k,rfl,I,G⟩ s
   have d:=(d.callN H I).addE (e:=j6 k h.Epochs) G
   refine ws (C73 h x t) s d 3 y y y o3 fun a w s d=>rz0 1 s y fun a s=>?_
   obtain rfl:=oi u
   have J:=g _ y
   subst J
   exact t7 (o8 (j4 (j4 (o8 (j4 (Y7 s y (D8 d 3 y y F2 o3 y) (F3 y) (d.ret ⟨x,t,k,y,(d.outs [0] (by decide) y),(d.envAt 0 y)⟩)))))))
  refine D1 (l9 (tn (j9 (rz0 2 s y fun a s=>?_))))
  exact ⟨_,io u,c,wj s d [1,2] [2,3]⟩
 obtain ⟨L,u,f⟩:=X5 u
 have f:=(g _ f.symm).symm
 subst f
 refine u0 (j5 (j5 (o9 (tn (sr (sv s (A8 (vs:=[]) b1T y y) y fun a s=>?_))))))
 refine ws Z2 s d 1 y y y o3 fun a w s d=>rz0 1 s y fun a s=>?_
 obtain rfl:=oi u
 have d:=d.nilRow Epoch 41
 exact t7 (Y7 s y (D8 d 2 y y F2 o3 y) (F3 y) (d.ret ⟨none,0,[],y,(d.outs [0] (by decide) y),(d.envAt 0 y)⟩))
theorem a3w {w0 S0 n1 r} (u:Q5 n1=some r) (hS:Dm S0 w0):Ck Tryz.prog 135 #[.slice none 0 0,iv n1] w0 S0 [] J5 r:=by
 refine en 27 func135 y hS y y y fun a s d=>sz0 1 s y fun a s=>l3 (sz0 2 s y fun a s=>?_)
 refine cd s u y (fun u=>?_) fun u=>?_
 ·cases u
 refine sk (l3 (sn0 2 s y fun a s=>?_))
 refine sv s (b5h o4 y) y fun a s=>rn0 4 s y fun a s=>?_
 obtain ⟨n5,h4,u⟩:=bt u
 refine sv s (w9 y h4) y fun a s=>nl (sz0 2 s y fun a s=>?_)
 refine A7 (fun a w=>∃ (b:(List Epoch)) (c f e g:_),O3 b=some r∧Sl 27 [(0,sl f e b)] a∧Wd ⟨w0,S0,[]⟩ g [.row f b.length e c 41 8] [j6 c b] w) ?_ ?_
 ·refine cd s u y (fun u=>?_) fun u=>?_
  ·refine j9 (rn0 2 s y fun a s=>?_)
   refine sv s (b5h o4 y) y fun a s=>?_
   obtain ⟨q,j,u⟩:=bt u
   obtain ⟨k,l⟩:=b6o 8 j
   subst k
   refine sv s (U4 o4 t6 y (by exact y) ⟨_,y⟩ l) y fun a s=>mv s y y fun a s=>?_
   obtain ⟨t,m,u⟩:=bt u
   refine b2I (α:=Epoch) (z0:=((⟨0,0,(⟨0,0⟩:Rate),(⟨0,0,0⟩:Position),(⟨([]:List Stage)⟩:Response)⟩:Epoch):Epoch)) s d a7k ⟨_,_,_,_,_,_,_,_,y,y,y,y,y,y,y,y,⟨none,0,0,y,K9⟩⟩ underlying3 y y m y y j8 ?_
   intro p31 p i a w s d
   refine rn0 2 s y fun a s=>?_
   obtain ⟨h,n,u⟩:=bt u
   obtain ⟨d,o⟩:=b2J d 0 y 0 y n
   refine sv s (U4 o4 t6 y (by exact y) ⟨_,y⟩ o) y fun a s=>rz0 1 s y fun a s=>⟨h,(i.take (h.length * 8)),p31,p,S0,u,wj s d [0] [0]⟩
  refine sk ?_
  have d:=d.nilRow Epoch 41
  exact ⟨([]:List Epoch),[],none,0,S0,u,wj s d [0] [0]⟩
 rintro a w ⟨b,c,f,e,g,u,s,d⟩
 refine tn (sz0 2 s y fun a s=>?_)
 obtain rfl:=oi u
 exact q1 s y (d.ret ⟨f,e,c,y,(d.outs [0] (by decide) y),(d.envAt 0 y)⟩)
theorem a3u {w0 S0 p2 k3 b r} (u:Q4 b=some r) (hS:Dm S0 w0) (h4:(Sq p2 k3 b).p S0 w0):Ck Tryz.prog 107 #[sl p2 k3 b] w0 S0 [] J5 r:=by
 refine en 36 func107 y hS y y y fun a s d=>?_
 have d:=d.addE h4
 refine sz0 1 s y fun a s=>sz0 1 s y fun a s=>l3 (sz0 3 s y fun a s=>?_)
 obtain ⟨ap,E,u⟩:=bt u
 refine A7 (fun a w=>∃ v,Sl 36 [(0,sl p2 k3 b),(3,iv ap)] a∧Wd ⟨w0,S0,[]⟩ v [] [Sq p2 k3 b] w) ?_ ?_
 ·refine m6 (u7 (fun J a w=>∃ g,Sl 36 [(0,sl p2 k3 b),(3,iv J.1),(9,sl p2 k3 b),(10,iv (b.length:Int)),(11,iv J.2)] a∧Wd ⟨w0,S0,[]⟩ g [] [Sq p2 k3 b] w) (0,0) E ⟨S0,wj s d [] [0]⟩ ?_)
  clear E
  repeat clear u
  rintro J a w aF ⟨g,s,d⟩ u ad
  refine sz0 1 s y fun a s=>l3 (cd s u y (fun u=>?_) fun u=>?_)
  ·refine sk (l3 (m6 (sr ?_)))
   obtain ⟨am,aq,u⟩:=bt u
   obtain ⟨aw,aB,aD,ay,P,z,N,O,ar⟩:=d.elemV 0 y aq
   have F:=s
   have H:=d
   subst P
   have s:=F
   have d:=H
   obtain ⟨_,rfl,⟨ai,n112,ae,rfl,A⟩⟩:=ar
   obtain rfl:=A.1
   have d:=(d.addE (e:=SlA ai _ ae am) A).addE O
   refine sv s (o7 J0 D2 y y z.1 z.2 N) y fun a s=>sv s (F5 (j:=0) (d.ceAt 0 y) y F0 y) y fun a s=>rz0 1 s y fun a s=>sn0 4 s y fun a s=>?_
   obtain ⟨ao,Q,u⟩:=bt u
   refine sv s (w9 y Q) y fun a s=>nl (sz0 2 s y fun a s=>?_)
   refine cd s u y (fun u=>?_) fun u=>?_
   ·cases u
   refine D1 (l9 (tn (j9 (rz0 2 s y fun a s=>?_))))
   exact ⟨_,io u,g,wj s d [] [2]⟩
  refine u0 (j5 (j5 (o9 ?_)))
  obtain rfl:=oi u
  have R:=ad _ y
  subst R
  exact tn ⟨g,wj s d [] [0]⟩
 rintro a w ⟨v,s,d⟩
 refine tn (sn0 1 s y fun a s=>?_)
 obtain ⟨t,S,u⟩:=bt u
 refine cR s (a3w S d.dom) (j3 call135 y) y ?_
 rintro aG K w a U ⟨aj,af,x,rfl,V,T⟩ s
 have d:=(d.callN U V).addE (e:=j6 x t) T
 refine rz0 1 s y fun a s=>l3 (sz0 3 s y fun a s=>?_)
 obtain ⟨o,D,u⟩:=bt u
 refine A7 (fun a w=>∃ i n l q,Sl 36 [(6,sl n l o)] a∧Wd ⟨w0,S0,[]⟩ q [.row n o.length l i 41 8] [j6 i o] w) ?_ ?_
 ·refine m6 (u7 (fun c a w=>∃ h m k f,Sl 36 [(6,sl m k c.1),(25,sl p2 k3 b),(26,iv (b.length:Int)),(27,iv c.2)] a∧Wd ⟨w0,S0,[]⟩ f [.row m c.1.length k h 41 8] [Sq p2 k3 b,j6 h c.1] w) (t,0) D ⟨x,aj,af,K,wj s d [0] [1,0]⟩ ?_)
  clear D
  repeat clear u
  rintro c a w au ⟨h,m,k,f,s,d⟩ u L
  refine sz0 1 s y fun a s=>l3 (cd s u y (fun u=>?_) fun u=>?_)
  ·refine sk (l3 (m6 (sr ?_)))
   obtain ⟨an,W,u⟩:=bt u
   obtain ⟨ax,aC,aE,az,aa,B,Y,Z,X⟩:=d.elemV 0 y W
   have G:=s
   have I:=d
   subst aa
   have s:=G
   have d:=I
   obtain ⟨_,rfl,⟨ak,n256,ag,rfl,C⟩⟩:=X
   obtain rfl:=C.1
   have d:=(d.addE (e:=SlA ak _ ag an) C).addE Z
   refine sv s (o7 J0 D2 y y B.1 B.2 Y) y fun a s=>sv s (F5 (j:=0) (d.ceAt 0 y) y F0 y) y fun a s=>rz0 1 s y fun a s=>j9 (rn0 2 s y fun a s=>?_)
   obtain ⟨aA,ab,u⟩:=bt u
   refine R4 (α:=Epoch) s d a7k 0 y y y 3 y 1 y ab y j8 ?_
   intro al ah M a w s d
   refine av s y y fun a s=>l4 ?_
   refine l9 (tn (j9 (rz0 2 s y fun a s=>?_)))
   exact ⟨_,io u,M,al,ah,f,wj s d [0] [3,0]⟩
  refine u0 (j5 (j5 (o9 ?_)))
  obtain rfl:=oi u
  have ac:=L _ y
  subst ac
  exact tn ⟨h,m,k,f,wj s d [0] [1]⟩
 rintro a w ⟨i,n,l,q,s,d⟩
 refine tn (sz0 2 s y fun a s=>?_)
 obtain rfl:=oi u
 exact q1 s y (d.ret ⟨n,l,i,y,(d.outs [0] (by decide) y),(d.envAt 0 y)⟩)
theorem b0D {w0 S0 p2 k3 p6 k7 a1 b5 r} (u:a4S a1 b5=some r) (hS:Dm S0 w0) (h4:(Sq p2 k3 a1.Response.Stages).p S0 w0) (h8:(Sq p6 k7 b5.Response.Stages).p S0 w0):Ck Tryz.prog 108 #[V41 a1 p2 k3,V41 b5 p6 k7] w0 S0 [] o5 r:=by
 refine en 24 func108 y hS y y y fun a s d=>?_
 have d:=(d.addE h4).addE h8
 refine sr (wb (C41 a1 p2 k3) s d y fun b9 a w s d=>?_)
 refine wb (C41 b5 p6 k7) s d y fun g a w s d=>rz0 1 s y fun a s=>sn 4 [1,0] s d y y fun a s=>sv s (a0E (by kernel_rfl) y y (M5 G3 (by kernel_rfl) (EqF.cons1 y s8 y y (G9 q6) (EqF.cons1 y s8 y y (G9 q6) EqF.nil)))) y fun a s=>mv s y y fun a s=>y7 6 (fun a w1=>w=w1∧Sl 24 [(2,pt b9),(3,pt g),(16,.bool (((a1.Rate.Num == b5.Rate.Num) && ((a1.Rate.Den == b5.Rate.Den) && true)) && ((a1.Position.X == b5.Position.X) && ((a1.Position.Y == b5.Position.Y) && ((a1.Position.Z == b5.Position.Z) && true)))))] a) ?_ ?_
 ·rcases j0 ((a1.Rate.Num == b5.Rate.Num) && ((a1.Rate.Den == b5.Rate.Den) && true)) with b | b
  ·have s:=s.bT 10 y b
   refine rn 4 [1,0] s d y y fun a s=>D6 s (a0E (by kernel_rfl) y y (M5 G4 (by kernel_rfl) (EqF.cons1 y s8 y y (G9 q6) (EqF.cons1 y s8 y y (G9 q6) (EqF.cons1 y s8 y y (G9 q6) EqF.nil))))) ⟨_,y,y⟩ y y fun a s=>rz0 1 s y fun a s=>⟨y,(s.fix 16 (.bool (((a1.Rate.Num == b5.Rate.Num) && ((a1.Rate.Den == b5.Rate.Den) && true)) && ((a1.Position.X == b5.Position.X) && ((a1.Position.Y == b5.Position.Y) && ((a1.Position.Z == b5.Position.Z) && true))))) y (a3J b)).weaken _ ⟨y,y,y,j8⟩⟩
  have s:=s.bF 10 y b
  refine rz0 6 s y fun a s=>⟨y,(s.fix 16 (.bool (((a1.Rate.Num == b5.Rate.Num) && ((a1.Rate.Den == b5.Rate.Den) && true)) && ((a1.Position.X == b5.Position.X) && ((a1.Position.Y == b5.Position.Y) && ((a1.Position.Z == b5.Position.Z) && true))))) y (a3I b)).weaken _ ⟨y,y,y,j8⟩⟩
 rintro a w1 ⟨k,s⟩
 subst k
 refine mv s y y fun a s=>?_
 obtain ⟨h,f,u⟩:=bt u
 refine y7 6 (fun a w=>∃ e,Sl 24 [(23,.bool h)] a∧Wd ⟨w0,S0,[]⟩ e [] [] w) ?_ ?_
 ·rcases j0 (((a1.Rate.Num == b5.Rate.Num) && ((a1.Rate.Den == b5.Rate.Den) && true)) && ((a1.Position.X == b5.Position.X) && ((a1.Position.Y == b5.Position.Y) && ((a1.Position.Z == b5.Position.Z) && true)))) with c | c
  ·have s:=s.bT 17 y c
   have u:=D7 f c
   refine rn 4 [1,0] s d y y fun a s=>?_
   obtain ⟨m,i,u⟩:=bt u
   refine x9 s (a7o i d.bdom (d.bE 1 y) (d.bE 0 y)) (j3 call136 y) ⟨_,y,y⟩ y y ?_
   rintro n l w a j rfl s
   have d:=d.callB j
   refine sv s (I6 y y) y fun a s=>l4 ?_
   obtain rfl:=oi u
   exact tn ⟨S0,wj s d [] []⟩
  have s:=s.bF 17 y c
  have u:=E8 f c
  refine rn0 6 s y fun a s=>l4 ?_
  obtain rfl:=oi u
  exact tn ⟨S0,wj s d [] []⟩
 rintro a w ⟨e,s,d⟩
 refine rz0 1 s y fun a s=>?_
 obtain rfl:=oi u
 exact q1 s y (d.ret y)
abbrev A9 (w0:World) (X:List Nat) (r:(List Span)):Rd:=fun S w v=>∃ c b a,v=sl c b r∧Outs X w0 S w [.row c r.length b a 52 2]∧(j6 a r).p S w
theorem a4k {w0 S0 p2 k3 s1 r} (u:O5 s1=some r) (hS:Dm S0 w0) (h4:(Sq p2 k3 s1).p S0 w0):Ck Tryz.prog 172 #[sl p2 k3 s1] w0 S0 [] A9 r:=by
 refine en 8 func172 y hS y y y fun a s d=>?_
 have d:=d.addE h4
 delta O5 at u
 refine sz0 1 s y fun a s=>l3 (sn0 1 s y fun a s=>?_)
 refine sv s (b0g o0 y y) y fun a s=>nl ?_
 have b:=s
 have c:=d
 rcases p2 with _ | i
 ·have s:=b
  have d:=c
  obtain rfl:=b2z (d.envAt 0 y)
  have u:some ([]:List Span)=some r:=by simpa [T9,maxLen] using u
  refine wp_cond_true (s.ev y) ?_
  refine sz0 1 s y fun a s=>?_
  obtain rfl:=oi u
  have d:=d.nilRow Span 52
  exact t7 (j4 (rt s y (d.ret ⟨none,0,[],y,(d.outs [0] (by decide) y),(d.envAt 0 y)⟩)))
 have s:=b
 have d:=c
 refine wp_cond_false (s.ev y) ?_
 refine sk (sr (a1j (α:=Span) (vs:=[]) (cs:=[]) (xs:=([]:List Span)) s d a3z y y y y y y y y j8 fun p9 a w s d=>?_))
 refine mv s y y fun a s=>?_
 obtain ⟨j,f,u⟩:=bt u
 refine R4 (α:=Span) s d a3z 0 y y y 0 y 1 y f y j8 ?_
 intro h g e a w s d
 refine rz0 1 s y fun a s=>?_
 obtain rfl:=oi u
 exact q1 s y (d.ret ⟨h,g,e,y,(d.outs [0] (by decide) y),(d.envAt 0 y)⟩)
theorem a3f {w0 S0 p2 k3 g6 f7 e s1} {f5:Span→Option Bool} {r} (u:P7 s1 f5=some r) (hS:Dm S0 w0) (h4:(Sq p2 k3 s1).p S0 w0) (h9:(a6o Tryz.prog g6 f7 e f5).p S0 w0):Ck Tryz.prog 191 #[sl p2 k3 s1,.func (.func g6) f7.toArray e.toArray] w0 S0 [] K7 r:=by
 refine en 19 func191 y hS y y y fun a s d=>?_
 have d:=(d.addE h4).addE h9
 refine sz0 1 s y fun a s=>l3 (sz0 3 s y fun a s=>?_)
 refine m6 (u7 (fun k a w=>∃ b,Sl 19 [(0,sl p2 k3 s1),(1,.func (.func g6) f7.toArray e.toArray),(7,iv (s1.length:Int)),(8,iv k)] a∧Wd ⟨w0,S0,[]⟩ b [] [Sq p2 k3 s1,a6o Tryz.prog g6 f7 e f5] w) 0 u ⟨S0,wj s d [] [1,0]⟩ ?_)
 repeat clear u
 rintro k a w C ⟨b,s,d⟩ u f
 refine sz0 1 s y fun a s=>l3 (cd s u y (fun u=>?_) fun u=>?_)
 ·refine sk (l3 (m6 (sz0 2 s y fun a s=>?_)))
  refine sn0 3 s y fun a s=>?_
  obtain ⟨I,l,u⟩:=bt u
  obtain ⟨D,F,G,E,q,g,n,o,m⟩:=d.elemV 0 y l
  have h:=s
  have i:=d
  subst q
  have s:=h
  have d:=i
  obtain ⟨_,_,rfl,rfl,rfl⟩:=m
  have d:=d.addE o
  refine sv s (o7 o0 u5 y y g.1 g.2 n) y fun a s=>sv s (D5 (j:=0) (d.ceAt 0 y) y H3 u5 y y) y fun a s=>?_
  obtain ⟨A,t,u⟩:=bt u
  refine x9 s ((d.bE 2 y).2 a2O.rfl' d.bdom ⟨_,_,y,y,y⟩ t) (a4A (d.bE 2 y).1 y y) j8 y y ?_
  rintro H z w a v rfl s
  have d:=d.callB v
  refine nl (cd s u y (fun u=>?_) fun u=>?_)
  ·refine sz0 2 s y fun a s=>?_
   obtain rfl:=oi u
   have x:=f _ y
   subst x
   exact t7 (o8 (j4 (j4 (o8 (j4 (rt s y (d.ret y)))))))
  refine D1 (l9 (tn (j9 (rz0 2 s y fun a s=>?_))))
  exact ⟨_,io u,b,wj s d [] [1,2]⟩
 obtain ⟨B,u,c⟩:=X5 u
 have c:=(f _ c.symm).symm
 subst c
 refine u0 (j5 (j5 (o9 (tn (sz0 1 s y fun a s=>?_)))))
 obtain rfl:=oi u
 exact q1 s y (d.ret y)
end Go.Proofs.YteanekphncdhiaaGreat.Wk

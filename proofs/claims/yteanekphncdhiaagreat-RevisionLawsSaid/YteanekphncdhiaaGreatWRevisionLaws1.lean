/- The walks of RevisionLaws, part 1: each Go function computes what its plain program computes. Printed by a program of ours. -/
import Derived.Test.YteanekphncdhiaaGreatProg
import Derived.Test.YteanekphncdhiaaGreatLibMs
import Derived.Test.YteanekphncdhiaaGreatDat
import Derived.Test.YteanekphncdhiaaGreatSh
import Derived.Test.YteanekphncdhiaaGreatLa1
import Derived.Test.YteanekphncdhiaaGreatLa2
import Derived.Test.YteanekphncdhiaaGreatLibCh
import Derived.KernelRfl
import Derived.Test.YteanekphncdhiaaGreatLb1
import Derived.Shelf.SlLaysF0
namespace Go.Proofs.YteanekphncdhiaaGreat.Wk
open Go Go.RowKit Go.Proofs Go.Proofs.YteanekphncdhiaaGreat.Sh Go.Proofs.Tryz
set_option linter.unusedVariables false
set_option linter.unusedSimpArgs false
set_option maxHeartbeats 4000000
set_option maxRecDepth 100000
theorem a5w:ElT Tryz.prog 22 3 1 8 (.int .i64 0):=⟨Tryz.underlying22,⟨Tryz.t3,a3w Tryz.type3,rfl,rfl,rfl⟩,rfl,by decide⟩
theorem a6R:ElT Tryz.prog 27 73 5 88 (.agg #[.string ByteArray.empty,.string ByteArray.empty,.string ByteArray.empty,.string ByteArray.empty,.slice none ([]:List Epoch).length 0]):=⟨Tryz.underlying27,⟨Tryz.t73,a3w Tryz.type73,rfl,rfl,rfl⟩,rfl,by decide⟩
theorem El37:ElT Tryz.prog 37 138 10 96 (.agg #[.int .i64 0,.int .i64 0,.int .i64 0,.int .i64 0,.int .i64 0,.int .i64 0,.int .i64 0,.slice none ([]:List Int).length 0,.int .i64 0,.int .i64 0]):=⟨Tryz.underlying37,⟨Tryz.t138,a3w Tryz.type138,rfl,rfl,rfl⟩,rfl,by decide⟩
theorem El48:ElT Tryz.prog 48 56 5 88 (.agg #[.string ByteArray.empty,.string ByteArray.empty,.string ByteArray.empty,.string ByteArray.empty,.slice none ([]:List Span).length 0]):=⟨Tryz.underlying48,⟨Tryz.t56,a3w Tryz.type56,rfl,rfl,rfl⟩,rfl,by decide⟩
theorem a4R:ElT Tryz.prog 50 52 2 16 (.agg #[.int .i64 0,.int .i64 0]):=⟨Tryz.underlying50,⟨Tryz.t52,a3w Tryz.type52,rfl,rfl,rfl⟩,rfl,by decide⟩
theorem El60:ElT Tryz.prog 60 32 4 64 (.agg #[.string ByteArray.empty,.string ByteArray.empty,.string ByteArray.empty,.string ByteArray.empty]):=⟨Tryz.underlying60,⟨Tryz.t32,a3w Tryz.type32,rfl,rfl,rfl⟩,rfl,by decide⟩
theorem El63:ElT Tryz.prog 63 43 14 160 (.agg #[.int .i64 0,.string ByteArray.empty,.string ByteArray.empty,.string ByteArray.empty,.string ByteArray.empty,.int .i64 0,.int .i64 0,.int .i64 0,.int .i64 0,.int .i64 0,.int .i64 0,.int .i64 0,.int .i64 0,.slice none ([]:List Stage).length 0]):=⟨Tryz.underlying63,⟨Tryz.t43,a3w Tryz.type43,rfl,rfl,rfl⟩,rfl,by decide⟩
theorem a5I:ElT Tryz.prog 71 41 8 80 (.agg #[.int .i64 0,.int .i64 0,.int .i64 0,.int .i64 0,.int .i64 0,.int .i64 0,.int .i64 0,.slice none ([]:List Stage).length 0]):=⟨Tryz.underlying71,⟨Tryz.t41,a3w Tryz.type41,rfl,rfl,rfl⟩,rfl,by decide⟩
theorem El124:ElT Tryz.prog 124 9 1 16 (.string ByteArray.empty):=⟨Tryz.underlying124,⟨Tryz.t9,a3w Tryz.type9,rfl,rfl,rfl⟩,rfl,by decide⟩
theorem El151:ElT Tryz.prog 151 27 1 24 (.slice none ([]:List Channel).length 0):=⟨Tryz.underlying151,⟨Tryz.t27,a3w Tryz.type27,rfl,rfl,rfl⟩,rfl,by decide⟩
theorem El171:ElT Tryz.prog 171 71 1 24 (.slice none ([]:List Epoch).length 0):=⟨Tryz.underlying171,⟨Tryz.t71,a3w Tryz.type71,rfl,rfl,rfl⟩,rfl,by decide⟩
theorem a4V:a6Q Tryz.prog 29 ((#[(0,1)]:Array (Nat × Nat))[·]?) [.slice none ([]:List Channel).length 0]:=a4G Tryz.zeroValue29 rfl Tryz.runUnderlying29 (fun w=>by simp [Tryz.sizeOf27])
theorem Bld32:a6Q Tryz.prog 32 ((#[(0,1),(1,1),(2,1),(3,1)]:Array (Nat × Nat))[·]?) [.string ByteArray.empty,.string ByteArray.empty,.string ByteArray.empty,.string ByteArray.empty]:=a4G Tryz.zeroValue32 rfl Tryz.runUnderlying32 (fun w=>by simp [Tryz.sizeOf9])
theorem Bld34:a6Q Tryz.prog 34 ((#[(0,1),(1,1)]:Array (Nat × Nat))[·]?) [.int .i64 0,.int .i64 0]:=a4G Tryz.zeroValue34 rfl Tryz.runUnderlying34 (fun w=>by simp [Tryz.sizeOf3])
theorem Bld36:a6Q Tryz.prog 36 ((#[(0,1),(1,1),(2,1)]:Array (Nat × Nat))[·]?) [.int .i64 0,.int .i64 0,.int .i64 0]:=a4G Tryz.zeroValue36 rfl Tryz.runUnderlying36 (fun w=>by simp [Tryz.sizeOf3])
theorem Bld41:a6Q Tryz.prog 41 ((#[(0,1),(1,1),(2,2),(4,3),(7,1)]:Array (Nat × Nat))[·]?) [.int .i64 0,.int .i64 0,.int .i64 0,.int .i64 0,.int .i64 0,.int .i64 0,.int .i64 0,.slice none ([]:List Stage).length 0]:=a4G Tryz.zeroValue41 rfl Tryz.runUnderlying41 (fun w=>by simp [Tryz.sizeOf3,Tryz.sizeOf34,Tryz.sizeOf36,Tryz.sizeOf39])
theorem Bld43:a6Q Tryz.prog 43 ((#[(0,1),(1,4),(5,1),(6,8)]:Array (Nat × Nat))[·]?) [.int .i64 0,.string ByteArray.empty,.string ByteArray.empty,.string ByteArray.empty,.string ByteArray.empty,.int .i64 0,.int .i64 0,.int .i64 0,.int .i64 0,.int .i64 0,.int .i64 0,.int .i64 0,.int .i64 0,.slice none ([]:List Stage).length 0]:=a4G Tryz.zeroValue43 rfl Tryz.runUnderlying43 (fun w=>by simp [Tryz.sizeOf3,Tryz.sizeOf32,Tryz.sizeOf41])
theorem b0g:a6Q Tryz.prog 52 ((#[(0,1),(1,1)]:Array (Nat × Nat))[·]?) [.int .i64 0,.int .i64 0]:=a4G Tryz.zeroValue52 rfl Tryz.runUnderlying52 (fun w=>by simp [Tryz.sizeOf3])
theorem Bld56:a6Q Tryz.prog 56 ((#[(0,4),(4,1)]:Array (Nat × Nat))[·]?) [.string ByteArray.empty,.string ByteArray.empty,.string ByteArray.empty,.string ByteArray.empty,.slice none ([]:List Span).length 0]:=a4G Tryz.zeroValue56 rfl Tryz.runUnderlying56 (fun w=>by simp [Tryz.sizeOf32,Tryz.sizeOf50])
theorem b0h:a6Q Tryz.prog 65 ((#[(0,1),(1,1)]:Array (Nat × Nat))[·]?) [.slice none ([]:List Channel).length 0,.slice none ([]:List Change).length 0]:=a4G Tryz.zeroValue65 rfl Tryz.runUnderlying65 (fun w=>by simp [Tryz.sizeOf29,Tryz.sizeOf63])
theorem b2v:a6Q Tryz.prog 73 ((#[(0,4),(4,1)]:Array (Nat × Nat))[·]?) [.string ByteArray.empty,.string ByteArray.empty,.string ByteArray.empty,.string ByteArray.empty,.slice none ([]:List Epoch).length 0]:=a4G Tryz.zeroValue73 rfl Tryz.runUnderlying73 (fun w=>by simp [Tryz.sizeOf32,Tryz.sizeOf71])
theorem Bld94:a6Q Tryz.prog 94 ((#[(0,1),(1,1)]:Array (Nat × Nat))[·]?) [.slice none ([]:List Int).length 0,.int .i64 0]:=a4G Tryz.zeroValue94 rfl Tryz.runUnderlying94 (fun w=>by simp [Tryz.sizeOf3,Tryz.sizeOf22])
theorem a5v:a6Q Tryz.prog 136 (fun i=>some (i * 1,1)) [.int .i64 0,.int .i64 0,.int .i64 0]:=b3W Tryz.zeroValue136 rfl Tryz.runUnderlying136 Tryz.sizeOf3
theorem b3l:a6Q Tryz.prog 138 ((#[(0,1),(1,3),(4,3),(7,1),(8,1),(9,1)]:Array (Nat × Nat))[·]?) [.int .i64 0,.int .i64 0,.int .i64 0,.int .i64 0,.int .i64 0,.int .i64 0,.int .i64 0,.slice none ([]:List Int).length 0,.int .i64 0,.int .i64 0]:=a4G Tryz.zeroValue138 rfl Tryz.runUnderlying138 (fun w=>by simp [Tryz.sizeOf3,Tryz.sizeOf22,Tryz.sizeOf136])
theorem Bld157:a6Q Tryz.prog 157 (fun i=>some (i * 1,1)) [.int .i64 0,.int .i64 0,.int .i64 0,.int .i64 0]:=b3W Tryz.zeroValue157 rfl Tryz.runUnderlying157 Tryz.sizeOf3
theorem kok32:KOK SourceID Tryz.prog 32:=⟨Maps.Keyed.of_law (deep_law_laid (P:=Tryz.prog) (by kernel_rfl) (m:=2) (by decide) (of_decide_eq_true (by kernel_rfl)) (by kernel_rfl) (by kernel_rfl)),fun x h=>key_strs Tryz.underlying32 (by kernel_rfl) (by kernel_rfl) (by kernel_rfl) ⟨_,(by kernel_rfl:Tryz.prog.types.size=243+1)⟩ ⟨Tryz.underlying9,rfl,by kernel_rfl⟩ ⟨Tryz.underlying9,rfl,by kernel_rfl⟩ ⟨Tryz.underlying9,rfl,by kernel_rfl⟩ ⟨Tryz.underlying9,rfl,by kernel_rfl⟩ h.1 h.2.1 h.2.2.1 h.2.2.2,fun {x y} h=>by cases x;cases y;simpa [MsKey.val] using h⟩
instance:TbOk Tryz.prog where
  tb:=⟨[(29,[(0,1,false)]),(32,[(0,1,false),(1,1,false),(2,1,false),(3,1,false)]),(34,[(0,1,false),(1,1,false)]),(36,[(0,1,false),(1,1,false),(2,1,false)]),(39,[(0,1,false)]),(41,[(0,1,false),(1,1,false),(2,2,true),(4,3,true),(7,1,true)]),(43,[(0,1,false),(1,4,true),(5,1,false),(6,8,true)]),(52,[(0,1,false),(1,1,false)]),(56,[(0,4,true),(4,1,false)]),(65,[(0,1,true),(1,1,false)]),(73,[(0,4,true),(4,1,false)]),(94,[(0,1,false),(1,1,false)]),(138,[(0,1,false),(1,3,true),(4,3,true),(7,1,false),(8,1,false),(9,1,false)])],[(3,none),(9,none),(22,none),(27,none),(29,some 1),(32,some 4),(34,some 2),(36,some 3),(37,none),(39,some 1),(41,some 8),(43,some 14),(50,none),(52,some 2),(63,none),(65,some 2),(71,none),(73,some 5),(136,some 3),(138,some 10)],[(9,false),(22,true),(27,true),(37,true),(48,true),(50,true),(60,true),(63,true),(71,true),(151,true),(171,true)]⟩
  st:=⟨⟨_,Tryz.runUnderlying29,⟨rfl,Tryz.sizeOf27,Tryz.isAgg27⟩,trivial⟩,⟨_,Tryz.runUnderlying32,⟨rfl,Tryz.sizeOf9,Tryz.isAgg9⟩,⟨rfl,Tryz.sizeOf9,Tryz.isAgg9⟩,⟨rfl,Tryz.sizeOf9,Tryz.isAgg9⟩,⟨rfl,Tryz.sizeOf9,Tryz.isAgg9⟩,trivial⟩,⟨_,Tryz.runUnderlying34,⟨rfl,Tryz.sizeOf3,Tryz.isAgg3⟩,⟨rfl,Tryz.sizeOf3,Tryz.isAgg3⟩,trivial⟩,⟨_,Tryz.runUnderlying36,⟨rfl,Tryz.sizeOf3,Tryz.isAgg3⟩,⟨rfl,Tryz.sizeOf3,Tryz.isAgg3⟩,⟨rfl,Tryz.sizeOf3,Tryz.isAgg3⟩,trivial⟩,⟨_,Tryz.runUnderlying39,⟨rfl,Tryz.sizeOf37,Tryz.isAgg37⟩,trivial⟩,⟨_,Tryz.runUnderlying41,⟨rfl,Tryz.sizeOf3,Tryz.isAgg3⟩,⟨rfl,Tryz.sizeOf3,Tryz.isAgg3⟩,⟨rfl,Tryz.sizeOf34,Tryz.isAgg34⟩,⟨rfl,Tryz.sizeOf36,Tryz.isAgg36⟩,⟨rfl,Tryz.sizeOf39,Tryz.isAgg39⟩,trivial⟩,⟨_,Tryz.runUnderlying43,⟨rfl,Tryz.sizeOf3,Tryz.isAgg3⟩,⟨rfl,Tryz.sizeOf32,Tryz.isAgg32⟩,⟨rfl,Tryz.sizeOf3,Tryz.isAgg3⟩,⟨rfl,Tryz.sizeOf41,Tryz.isAgg41⟩,trivial⟩,⟨_,Tryz.runUnderlying52,⟨rfl,Tryz.sizeOf3,Tryz.isAgg3⟩,⟨rfl,Tryz.sizeOf3,Tryz.isAgg3⟩,trivial⟩,⟨_,Tryz.runUnderlying56,⟨rfl,Tryz.sizeOf32,Tryz.isAgg32⟩,⟨rfl,Tryz.sizeOf50,Tryz.isAgg50⟩,trivial⟩,⟨_,Tryz.runUnderlying65,⟨rfl,Tryz.sizeOf29,Tryz.isAgg29⟩,⟨rfl,Tryz.sizeOf63,Tryz.isAgg63⟩,trivial⟩,⟨_,Tryz.runUnderlying73,⟨rfl,Tryz.sizeOf32,Tryz.isAgg32⟩,⟨rfl,Tryz.sizeOf71,Tryz.isAgg71⟩,trivial⟩,⟨_,Tryz.runUnderlying94,⟨rfl,Tryz.sizeOf22,Tryz.isAgg22⟩,⟨rfl,Tryz.sizeOf3,Tryz.isAgg3⟩,trivial⟩,⟨_,Tryz.runUnderlying138,⟨rfl,Tryz.sizeOf3,Tryz.isAgg3⟩,⟨rfl,Tryz.sizeOf136,Tryz.isAgg136⟩,⟨rfl,Tryz.sizeOf136,Tryz.isAgg136⟩,⟨rfl,Tryz.sizeOf22,Tryz.isAgg22⟩,⟨rfl,Tryz.sizeOf3,Tryz.isAgg3⟩,⟨rfl,Tryz.sizeOf3,Tryz.isAgg3⟩,trivial⟩,trivial⟩
  ld:=⟨Tryz.isAgg3,Tryz.isAgg9,Tryz.isAgg22,Tryz.isAgg27,⟨Tryz.isAgg29,Tryz.sizeOf29⟩,⟨Tryz.isAgg32,Tryz.sizeOf32⟩,⟨Tryz.isAgg34,Tryz.sizeOf34⟩,⟨Tryz.isAgg36,Tryz.sizeOf36⟩,Tryz.isAgg37,⟨Tryz.isAgg39,Tryz.sizeOf39⟩,⟨Tryz.isAgg41,Tryz.sizeOf41⟩,⟨Tryz.isAgg43,Tryz.sizeOf43⟩,Tryz.isAgg50,⟨Tryz.isAgg52,Tryz.sizeOf52⟩,Tryz.isAgg63,⟨Tryz.isAgg65,Tryz.sizeOf65⟩,Tryz.isAgg71,⟨Tryz.isAgg73,Tryz.sizeOf73⟩,⟨Tryz.isAgg136,Tryz.sizeOf136⟩,⟨Tryz.isAgg138,Tryz.sizeOf138⟩,trivial⟩
  ln:=⟨Tryz.runUnderlying9,⟨_,Tryz.runUnderlying22⟩,⟨_,Tryz.runUnderlying27⟩,⟨_,Tryz.runUnderlying37⟩,⟨_,Tryz.runUnderlying48⟩,⟨_,Tryz.runUnderlying50⟩,⟨_,Tryz.runUnderlying60⟩,⟨_,Tryz.runUnderlying63⟩,⟨_,Tryz.runUnderlying71⟩,⟨_,Tryz.runUnderlying151⟩,⟨_,Tryz.runUnderlying171⟩,trivial⟩
abbrev C32 (d:SourceID):List Value:=[.string d.Network,.string d.Station,.string d.Location,.string d.Channel]
abbrev V32 (d:SourceID):Value:=.agg (C32 d).toArray
abbrev C34 (d:Rate):List Value:=[.int .i64 d.Num,.int .i64 d.Den]
abbrev V34 (d:Rate):Value:=.agg (C34 d).toArray
abbrev C36 (d:Position):List Value:=[.int .i64 d.X,.int .i64 d.Y,.int .i64 d.Z]
abbrev V36 (d:Position):Value:=.agg (C36 d).toArray
abbrev C41 (d:Epoch) (p7:Option Addr) (k7:Nat):List Value:=[.int .i64 d.From,.int .i64 d.To,.int .i64 d.Rate.Num,.int .i64 d.Rate.Den,.int .i64 d.Position.X,.int .i64 d.Position.Y,.int .i64 d.Position.Z,.slice p7 d.Response.Stages.length k7]
abbrev V41 (d:Epoch) (p7:Option Addr) (k7:Nat):Value:=.agg (C41 d p7 k7).toArray
abbrev C43 (d:Change) (p13:Option Addr) (k13:Nat):List Value:=[.int .i64 d.Kind,.string d.Source.Network,.string d.Source.Station,.string d.Source.Location,.string d.Source.Channel,.int .i64 d.From,.int .i64 d.Epoch.From,.int .i64 d.Epoch.To,.int .i64 d.Epoch.Rate.Num,.int .i64 d.Epoch.Rate.Den,.int .i64 d.Epoch.Position.X,.int .i64 d.Epoch.Position.Y,.int .i64 d.Epoch.Position.Z,.slice p13 d.Epoch.Response.Stages.length k13]
abbrev V43 (d:Change) (p13:Option Addr) (k13:Nat):Value:=.agg (C43 d p13 k13).toArray
abbrev C52 (d:Span):List Value:=[.int .i64 d.From,.int .i64 d.To]
abbrev V52 (d:Span):Value:=.agg (C52 d).toArray
abbrev C56 (d:Affected) (p4:Option Addr) (k4:Nat):List Value:=[.string d.Source.Network,.string d.Source.Station,.string d.Source.Location,.string d.Source.Channel,.slice p4 d.Spans.length k4]
abbrev V56 (d:Affected) (p4:Option Addr) (k4:Nat):Value:=.agg (C56 d p4 k4).toArray
abbrev C65 (d:History) (p0:Option Addr) (k0:Nat) (p1:Option Addr) (k1:Nat):List Value:=[.slice p0 d.Base.Channels.length k0,.slice p1 d.Changes.length k1]
abbrev V65 (d:History) (p0:Option Addr) (k0:Nat) (p1:Option Addr) (k1:Nat):Value:=.agg (C65 d p0 k0 p1 k1).toArray
abbrev C73 (d:Channel) (p4:Option Addr) (k4:Nat):List Value:=[.string d.Source.Network,.string d.Source.Station,.string d.Source.Location,.string d.Source.Channel,.slice p4 d.Epochs.length k4]
abbrev V73 (d:Channel) (p4:Option Addr) (k4:Nat):Value:=.agg (C73 d p4 k4).toArray
abbrev C94 (d:Dice) (p0:Option Addr) (k0:Nat):List Value:=[.slice p0 d.L.length k0,.int .i64 d.At]
abbrev V94 (d:Dice) (p0:Option Addr) (k0:Nat):Value:=.agg (C94 d p0 k0).toArray
abbrev a1y (d:Stage) (p7:Option Addr) (k7:Nat):List Value:=[.int .i64 d.Kind,.int .i64 d.Num.e0,.int .i64 d.Num.e1,.int .i64 d.Num.e2,.int .i64 d.Den.e0,.int .i64 d.Den.e1,.int .i64 d.Den.e2,.slice p7 d.Taps.length k7,.int .i64 d.Factor,.int .i64 d.Shift]
abbrev V138 (d:Stage) (p7:Option Addr) (k7:Nat):Value:=.agg (a1y d p7 k7).toArray
abbrev Z0:List Value:=[.int .i64 0,.int .i64 0,.int .i64 0,.int .i64 0,.int .i64 0,.int .i64 0,.int .i64 0,.slice none ([]:List Int).length 0,.int .i64 0,.int .i64 0]
abbrev Z1:List Value:=[.int .i64 0,.int .i64 0,.int .i64 0,.int .i64 0,.int .i64 0,.int .i64 0,.int .i64 0,.slice none ([]:List Stage).length 0]
abbrev Z2:List Value:=[.string ByteArray.empty,.string ByteArray.empty,.string ByteArray.empty,.string ByteArray.empty,.slice none ([]:List Epoch).length 0]
abbrev Z3:List Value:=[.string ByteArray.empty,.string ByteArray.empty,.string ByteArray.empty,.string ByteArray.empty]
abbrev Z4:List Value:=[.string (⟨#[65]⟩:ByteArray),.string (⟨#[66]⟩:ByteArray),.string ByteArray.empty,.string (⟨#[72,72,90]⟩:ByteArray)]
abbrev Z5:List Value:=[.int .i64 10,.int .i64 20,.int .i64 100,.int .i64 1,.int .i64 0,.int .i64 0,.int .i64 0,.slice none ([]:List Stage).length 0]
abbrev Z6:List Value:=[.int .i64 10,.int .i64 25,.int .i64 100,.int .i64 1,.int .i64 0,.int .i64 0,.int .i64 0,.slice none ([]:List Stage).length 0]
abbrev Z7:List Value:=[.string (⟨#[71,82]⟩:ByteArray),.string (⟨#[88]⟩:ByteArray),.string (⟨#[55,65]⟩:ByteArray)]
abbrev Z8:List Value:=[.string (⟨#[70,85,82]⟩:ByteArray),.string (⟨#[65]⟩:ByteArray),.string (⟨#[65,66,67,68,69]⟩:ByteArray),.string (⟨#[70,85]⟩:ByteArray)]
abbrev Z9:List Value:=[.string (⟨#[]⟩:ByteArray),.string (⟨#[48,48]⟩:ByteArray),.string (⟨#[49,48]⟩:ByteArray)]
abbrev Z10:List Value:=[.string (⟨#[72,72,90]⟩:ByteArray),.string (⟨#[72,72,78]⟩:ByteArray),.string (⟨#[66,72,90]⟩:ByteArray)]
abbrev Z11:List Value:=[.int .i64 1,.int .i64 3,.int .i64 20,.int .i64 100,.int .i64 40,.int .i64 4096,.int .i64 7]
abbrev Z12:List Value:=[.int .i64 1,.int .i64 1,.int .i64 1,.int .i64 3,.int .i64 7,.int .i64 4096]
abbrev Z13:List Value:=[.int .i64 1,.int .i64 2,.int .i64 (-3),.int .i64 1048576]
abbrev Z14:List Value:=[.int .i64 0,.int .i64 1,.int .i64 1048576]
abbrev Z15:List Value:=[.int .i64 1,.int .i64 1,.int .i64 2,.int .i64 5]
abbrev Z16:List Value:=[.int .i64 0,.int .i64 500,.int .i64 (-1048576),.int .i64 1048576]
abbrev Z17:List Value:=[.int .i64 0,.int .i64 (-200),.int .i64 (-16384)]
abbrev Z18:List Value:=[.int .i64 0,.string ByteArray.empty,.string ByteArray.empty,.string ByteArray.empty,.string ByteArray.empty,.int .i64 0,.int .i64 0,.int .i64 0,.int .i64 0,.int .i64 0,.int .i64 0,.int .i64 0,.int .i64 0,.slice none ([]:List Stage).length 0]
abbrev Z19:List Value:=[.int .i64 0,.int .i64 0,.int .i64 1,.int .i64 2]
abbrev Z20:List Value:=[.int .i64 (-1),.int .i64 500,.int .i64 3000]
abbrev Z21:List Value:=[.slice none ([]:List Channel).length 0,.slice none ([]:List Change).length 0]
abbrev Z22:List Value:=[.string ByteArray.empty,.string ByteArray.empty,.string ByteArray.empty,.string ByteArray.empty,.slice none ([]:List Span).length 0]
abbrev l7 (w0:World) (X:List Nat) (r:Bool):Rd:=fun S w v=>v=.bool r
theorem b1e {w0 S0 p2 k3 l1 r} (u:a6m l1=some r) (hS:Dm S0 w0) (h4:(Sq p2 k3 l1).p S0 w0):Ck Tryz.prog 9 #[sl p2 k3 l1] w0 S0 [] l7 r:=by
 refine en 6 func9 rfl hS rfl rfl rfl fun a s d=>?_
 have d:=d.addE h4
 refine sz0 1 s rfl fun a s=>?_
 refine sz0 4 s rfl fun a s=>?_
 obtain rfl:=oi u
 exact q1 s rfl (d.ret rfl)
theorem a9Y {w0 S0 c1 r} (u:a4T c1=some r) (hS:Dm S0 w0):Ck Tryz.prog 141 #[.int .u8 c1] w0 S0 [] l7 r:=by
 refine en 17 func141 rfl hS rfl rfl rfl fun a s d=>?_
 refine sz0 1 s rfl fun a s=>?_
 refine sn0 1 s rfl fun a s=>?_
 refine sv s (a8a (rfl) rfl) rfl fun a s=>?_
 refine mv s rfl rfl fun a s=>?_
 refine o7 3 (fun a w1=>w0=w1∧Sl 17 [(0,.int .u8 c1),(8,.bool ((decide (65≤c1)) && (decide (c1≤90))))] a) ?_ ?_
 ·rcases Bool.eq_false_or_eq_true (decide (65≤c1)) with h2 | h2
  ·have s:=s.bT 5 rfl h2
   refine y8 s (X3 rfl) ⟨_,rfl,rfl⟩ rfl rfl fun a s=>?_
   refine y8 s (b0Y (rfl) rfl) ⟨_,rfl,rfl⟩ rfl rfl fun a s=>?_
   refine rz0 1 s rfl fun a s=>?_
   exact ⟨rfl,(s.fix 8 (.bool ((decide (65≤c1)) && (decide (c1≤90)))) rfl (a3i h2)).weaken _ ⟨rfl,rfl,trivial⟩⟩
  have s:=s.bF 5 rfl h2
  refine rz0 3 s rfl fun a s=>?_
  exact ⟨rfl,(s.fix 8 (.bool ((decide (65≤c1)) && (decide (c1≤90)))) rfl (a3h h2)).weaken _ ⟨rfl,rfl,trivial⟩⟩
 rintro a w1 ⟨h11,s⟩
 subst h11
 refine mv s rfl rfl fun a s=>?_
 refine o7 7 (fun a w1=>w0=w1∧Sl 17 [(16,.bool (((decide (65≤c1)) && (decide (c1≤90))) || ((decide (48≤c1)) && (decide (c1≤57)))))] a) ?_ ?_
 ·rcases Bool.eq_false_or_eq_true ((decide (65≤c1)) && (decide (c1≤90))) with h5 | h5
  ·have s:=s.bT 9 rfl h5
   refine rz0 7 s rfl fun a s=>?_
   exact ⟨rfl,(s.fix 16 (.bool (((decide (65≤c1)) && (decide (c1≤90))) || ((decide (48≤c1)) && (decide (c1≤57))))) rfl (or_t h5)).weaken _ ⟨rfl,trivial⟩⟩
  have s:=s.bF 9 rfl h5
  refine y8 s (X3 rfl) ⟨_,rfl,rfl⟩ rfl rfl fun a s=>?_
  refine y8 s (a8a (rfl) rfl) ⟨_,rfl,rfl⟩ rfl rfl fun a s=>?_
  refine y8 s (X3 rfl) ⟨_,rfl,rfl⟩ rfl rfl fun a s=>?_
  refine o7 3 (fun a w1=>w0=w1∧Sl 17 [(9,.bool false),(15,.bool ((decide (48≤c1)) && (decide (c1≤57))))] a) ?_ ?_
  ·rcases Bool.eq_false_or_eq_true (decide (48≤c1)) with h8 | h8
   ·have s:=s.bT 12 rfl h8
    refine y8 s (X3 rfl) ⟨_,rfl,rfl⟩ rfl rfl fun a s=>?_
    refine y8 s (b0Y (rfl) rfl) ⟨_,rfl,rfl⟩ rfl rfl fun a s=>?_
    refine rz0 1 s rfl fun a s=>?_
    exact ⟨rfl,(s.fix 15 (.bool ((decide (48≤c1)) && (decide (c1≤57)))) rfl (a3i h8)).weaken _ ⟨rfl,rfl,trivial⟩⟩
   have s:=s.bF 12 rfl h8
   refine rz0 3 s rfl fun a s=>?_
   exact ⟨rfl,(s.fix 15 (.bool ((decide (48≤c1)) && (decide (c1≤57)))) rfl (a3h h8)).weaken _ ⟨rfl,rfl,trivial⟩⟩
  rintro a w1 ⟨h9,s⟩
  subst h9
  refine rz0 1 s rfl fun a s=>?_
  exact ⟨rfl,(s.fix 16 (.bool (((decide (65≤c1)) && (decide (c1≤90))) || ((decide (48≤c1)) && (decide (c1≤57))))) rfl (or_f h5)).weaken _ ⟨rfl,trivial⟩⟩
 rintro a w1 ⟨h10,s⟩
 subst h10
 refine rz0 1 s rfl fun a s=>?_
 obtain rfl:=oi u
 exact q1 s rfl (d.ret rfl)
theorem a3W {w0 S0 s1 low2 high3 r} (u:a2k s1 low2 high3=some r) (hS:Dm S0 w0):Ck Tryz.prog 121 #[.string s1,iv low2,iv high3] w0 S0 [] l7 r:=by
 refine en 29 func121 rfl hS rfl rfl rfl fun a s d=>?_
 refine sz0 1 s rfl fun a s=>?_
 refine wp_seq (sz0 3 s rfl fun a s=>?_)
 refine wp_block (u7 (fun sv45 a w=>∃ Sv71,Sl 29 [(0,.string s1),(1,iv low2),(2,iv high3),(9,iv (s1.size:Int)),(10,iv sv45)] a∧Wd ⟨w0,S0,[]⟩ Sv71 [] [] w) 0 u ⟨S0,wj s d [] []⟩ ?_)
 repeat clear u
 rintro sv45 a w tv85 ⟨Sv71,s,d⟩ u hd84
 refine sz0 1 s rfl fun a s=>?_
 refine wp_seq (cd s u rfl (fun u=>?_) fun u=>?_)
 ·refine sk (wp_seq (wp_block (sz0 2 s rfl fun a s=>?_)))
  refine sn0 2 s rfl fun a s=>?_
  obtain ⟨c102,h101,u⟩:=bt u
  refine sv s (a5U runUnderlying9 rfl rfl h101) rfl fun a s=>?_
  obtain ⟨rv104,h103,u⟩:=bt u
  refine cV s d (a9Y h103 d.bdom) (d9 call141 rfl) rfl fun a w s d=>?_
  refine rz0 1 s rfl fun a s=>?_
  refine cd s u rfl (fun u=>?_) fun u=>?_
  ·refine sz0 1 s rfl fun a s=>?_
   obtain rfl:=oi u
   have h113:=hd84 _ rfl
   subst h113
   exact wp_ret (r9 (j3 (j3 (r9 (j3 (rt s rfl (d.ret rfl)))))))
  refine wp_skip (l9 (tn (wp_region_lit (rz0 2 s rfl fun a s=>?_))))
  exact ⟨_,io u,Sv71,wj s d [] []⟩
 obtain ⟨rv115,u,h116⟩:=Y7 u
 have h116:=(hd84 _ h116.symm).symm
 subst h116
 refine wp_exit (j4 (j4 (o9 (tn (sn0 5 s rfl fun a s=>?_)))))
 refine rA 5 23 [] s d rfl rfl rfl rfl rfl fun a s=>?_
 refine rz0 1 s rfl fun a s=>?_
 obtain rfl:=oi u
 exact q1 s rfl (d.ret rfl)
theorem a1H {w0 S0 s1 r} (u:a3T s1=some r) (hS:Dm S0 w0):Ck Tryz.prog 85 #[V32 s1] w0 S0 [] l7 r:=by
 refine en 27 func85 rfl hS rfl rfl rfl fun a s d=>?_
 refine sr (wb (C32 s1) s d rfl fun b2 a w s d=>?_)
 refine rz0 1 s rfl fun a s=>?_
 refine sn 2 [0] s d rfl rfl fun a s=>?_
 obtain ⟨rv4,h3,u⟩:=bt u
 refine cV s d (a3W h3 d.bdom) (d9 call121 rfl) rfl fun a w s d=>?_
 refine mv s rfl rfl fun a s=>?_
 obtain ⟨c20,hc20,u⟩:=bt u
 refine o7 4 (fun a w=>∃ Sv21,Sl 27 [(1,pt b2),(10,.bool c20)] a∧Wd ⟨w0,S0,[]⟩ Sv21 [.box b2 (C32 s1) 32] [] w) ?_ ?_
 ·rcases Bool.eq_false_or_eq_true rv4 with h19 | h19
  ·have s:=s.bT 6 rfl h19
   have u:=D5 hc20 h19
   refine rn 2 [0] s d rfl rfl fun a s=>?_
   obtain ⟨rv23,h22,u⟩:=bt u
   refine q9 s (a3W h22 d.bdom) (d9 call121 rfl) ⟨_,rfl,rfl⟩ rfl rfl ?_
   rintro v27 Sv24 w a h25 rfl s
   have d:=d.callB h25
   refine sv s (G8 rfl rfl) rfl fun a s=>?_
   refine wpList_nil ?_
   obtain rfl:=oi u
   exact tn ⟨S0,wj s d [0] []⟩
  have s:=s.bF 6 rfl h19
  have u:=D6 hc20 h19
  refine rn0 4 s rfl fun a s=>?_
  refine wpList_nil ?_
  obtain rfl:=oi u
  exact tn ⟨S0,wj s d [0] []⟩
 rintro a w ⟨Sv21,s,d⟩
 refine mv s rfl rfl fun a s=>?_
 obtain ⟨c39,hc39,u⟩:=bt u
 refine o7 4 (fun a w=>∃ Sv40,Sl 27 [(1,pt b2),(15,.bool c39)] a∧Wd ⟨w0,S0,[]⟩ Sv40 [.box b2 (C32 s1) 32] [] w) ?_ ?_
 ·rcases Bool.eq_false_or_eq_true c20 with h38 | h38
  ·have s:=s.bT 11 rfl h38
   have u:=D5 hc39 h38
   refine rn 2 [0] s d rfl rfl fun a s=>?_
   obtain ⟨rv42,h41,u⟩:=bt u
   refine q9 s (a3W h41 d.bdom) (d9 call121 rfl) ⟨_,rfl,rfl⟩ rfl rfl ?_
   rintro v46 Sv43 w a h44 rfl s
   have d:=d.callB h44
   refine sv s (G8 rfl rfl) rfl fun a s=>?_
   refine wpList_nil ?_
   obtain rfl:=oi u
   exact tn ⟨Sv21,wj s d [0] []⟩
  have s:=s.bF 11 rfl h38
  have u:=D6 hc39 h38
  refine rn0 4 s rfl fun a s=>?_
  refine wpList_nil ?_
  obtain rfl:=oi u
  exact tn ⟨Sv21,wj s d [0] []⟩
 rintro a w ⟨Sv40,s,d⟩
 refine mv s rfl rfl fun a s=>?_
 refine rA 5 16 [0] s d rfl rfl rfl rfl rfl fun a s=>?_
 refine mv s rfl rfl fun a s=>?_
 obtain ⟨c59,hc59,u⟩:=bt u
 refine o7 4 (fun a w=>∃ Sv60,Sl 27 [(26,.bool c59)] a∧Wd ⟨w0,S0,[]⟩ Sv60 [] [] w) ?_ ?_
 ·rcases Bool.eq_false_or_eq_true (c39 && ((s1.Location.size:Int) != 1)) with h58 | h58
  ·have s:=s.bT 22 rfl h58
   have u:=D5 hc59 h58
   refine rn 2 [0] s d rfl rfl fun a s=>?_
   obtain ⟨rv62,h61,u⟩:=bt u
   refine q9 s (a3W h61 d.bdom) (d9 call121 rfl) ⟨_,rfl,rfl⟩ rfl rfl ?_
   rintro v66 Sv63 w a h64 rfl s
   have d:=d.callB h64
   refine sv s (G8 rfl rfl) rfl fun a s=>?_
   refine wpList_nil ?_
   obtain rfl:=oi u
   exact tn ⟨Sv40,wj s d [] []⟩
  have s:=s.bF 22 rfl h58
  have u:=D6 hc59 h58
  refine rn0 4 s rfl fun a s=>?_
  refine wpList_nil ?_
  obtain rfl:=oi u
  exact tn ⟨Sv40,wj s d [] []⟩
 rintro a w ⟨Sv60,s,d⟩
 refine rz0 1 s rfl fun a s=>?_
 obtain rfl:=oi u
 exact q1 s rfl (d.ret rfl)
theorem b0u {w0 S0 n1 low2 high3 r} (u:b0c n1 low2 high3=some r) (hS:Dm S0 w0):Ck Tryz.prog 142 #[iv n1,iv low2,iv high3] w0 S0 [] l7 r:=by
 refine en 15 func142 rfl hS rfl rfl rfl fun a s d=>?_
 refine sz0 1 s rfl fun a s=>?_
 refine sn0 4 s rfl fun a s=>?_
 refine rA 4 10 [] s d rfl rfl rfl rfl rfl fun a s=>?_
 refine rz0 1 s rfl fun a s=>?_
 obtain rfl:=oi u
 exact q1 s rfl (d.ret rfl)
abbrev J7 (w0:World) (X:List Nat) (r:Int):Rd:=fun S w v=>v=iv r
theorem b2V {w0 S0 a1 b2 r} (u:a8P a1 b2=some r) (hS:Dm S0 w0):Ck Tryz.prog 143 #[iv a1,iv b2] w0 S0 [] J7 r:=by
 refine en 12 func143 rfl hS rfl rfl rfl fun a s d=>?_
 refine sz0 1 s rfl fun a s=>?_
 refine wp_seq ?_
 obtain ⟨e21,h32,u⟩:=bt u
 refine x9 (fun a w=>∃ Sv22,Sl 12 [(0,iv e21)] a∧Wd ⟨w0,S0,[]⟩ Sv22 [] [] w) ?_ ?_
 ·refine wp_block (u7 (fun sv3 a w=>∃ Sv13,Sl 12 [(0,iv sv3.1),(1,iv sv3.2)] a∧Wd ⟨w0,S0,[]⟩ Sv13 [] [] w) (a1,b2) h32 ⟨S0,wj s d [] []⟩ ?_)
  clear h32
  repeat clear u
  rintro sv3 a w tv19 ⟨Sv13,s,d⟩ u hd18
  refine wp_seq (sz0 2 s rfl fun a s=>?_)
  refine cd s u rfl (fun u=>?_) fun u=>?_
  ·refine sk (wp_block ?_)
   obtain ⟨rem29,h28,u⟩:=bt u
   refine y9 (fun a w=>∃ Sv30,Sl 12 [(0,iv sv3.2),(1,iv rem29)] a∧Wd ⟨w0,S0,[]⟩ Sv30 [] [] w) ?_ ?_
   ·refine h_c [] [] d rfl rfl (by kernel_rfl) rfl fun hC d=>?_
    refine gn 3 [0,1,2] [] s hC rfl rfl rfl fun a s=>?_
    refine gv s 3 rfl rfl hC (fun w hC=>b3S rfl rfl h28) fun a s=>?_
    refine gn 2 [4,5] [] s hC rfl rfl rfl fun a s=>?_
    refine x8 (by kernel_rfl) ?_
    exact ⟨Sv13,wj s d [] []⟩
   rintro a w ⟨Sv30,s,d⟩
   exact l9 (tn ⟨_,io u,Sv30,wj s d [] []⟩)
  refine wp_exit (j4 (j4 (o9 ?_)))
  obtain rfl:=oi u
  have h31:=hd18 _ rfl
  subst h31
  exact tn ⟨Sv13,wj s d [] []⟩
 rintro a w ⟨Sv22,s,d⟩
 refine tn (sz0 2 s rfl fun a s=>?_)
 obtain rfl:=oi u
 exact q1 s rfl (d.ret rfl)
theorem b1g {w0 S0 r1 r} (u:a6o r1=some r) (hS:Dm S0 w0):Ck Tryz.prog 122 #[V34 r1] w0 S0 [] l7 r:=by
 refine en 19 func122 rfl hS rfl rfl rfl fun a s d=>?_
 refine sr (wb (C34 r1) s d rfl fun b2 a w s d=>?_)
 refine rz0 1 s rfl fun a s=>?_
 refine sn 2 [0] s d rfl rfl fun a s=>?_
 obtain ⟨rv4,h3,u⟩:=bt u
 refine cV s d (b0u h3 d.bdom) (d9 call142 rfl) rfl fun a w s d=>?_
 refine mv s rfl rfl fun a s=>?_
 obtain ⟨c20,hc20,u⟩:=bt u
 refine o7 4 (fun a w=>∃ Sv21,Sl 19 [(1,pt b2),(10,.bool c20)] a∧Wd ⟨w0,S0,[]⟩ Sv21 [.box b2 (C34 r1) 34] [] w) ?_ ?_
 ·rcases Bool.eq_false_or_eq_true rv4 with h19 | h19
  ·have s:=s.bT 6 rfl h19
   have u:=D5 hc20 h19
   refine rn 2 [0] s d rfl rfl fun a s=>?_
   obtain ⟨rv23,h22,u⟩:=bt u
   refine q9 s (b0u h22 d.bdom) (d9 call142 rfl) ⟨_,rfl,rfl⟩ rfl rfl ?_
   rintro v27 Sv24 w a h25 rfl s
   have d:=d.callB h25
   refine sv s (G8 rfl rfl) rfl fun a s=>?_
   refine wpList_nil ?_
   obtain rfl:=oi u
   exact tn ⟨S0,wj s d [0] []⟩
  have s:=s.bF 6 rfl h19
  have u:=D6 hc20 h19
  refine rn0 4 s rfl fun a s=>?_
  refine wpList_nil ?_
  obtain rfl:=oi u
  exact tn ⟨S0,wj s d [0] []⟩
 rintro a w ⟨Sv21,s,d⟩
 refine mv s rfl rfl fun a s=>?_
 obtain ⟨c39,hc39,u⟩:=bt u
 refine o7 7 (fun a w=>∃ Sv40,Sl 19 [(18,.bool c39)] a∧Wd ⟨w0,S0,[]⟩ Sv40 [] [] w) ?_ ?_
 ·rcases Bool.eq_false_or_eq_true c20 with h38 | h38
  ·have s:=s.bT 11 rfl h38
   have u:=D5 hc39 h38
   refine rn 4 [0,0] s d rfl rfl fun a s=>?_
   obtain ⟨rv42,h41,u⟩:=bt u
   refine q9 s (b2V h41 d.bdom) (d9 call143 rfl) ⟨_,rfl,rfl⟩ rfl rfl ?_
   rintro v46 Sv43 w a h44 rfl s
   have d:=d.callB h44
   refine rn0 2 s rfl fun a s=>?_
   refine wpList_nil ?_
   obtain rfl:=oi u
   exact tn ⟨Sv21,wj s d [] []⟩
  have s:=s.bF 11 rfl h38
  have u:=D6 hc39 h38
  refine rn0 7 s rfl fun a s=>?_
  refine wpList_nil ?_
  obtain rfl:=oi u
  exact tn ⟨Sv21,wj s d [] []⟩
 rintro a w ⟨Sv40,s,d⟩
 refine rz0 1 s rfl fun a s=>?_
 obtain rfl:=oi u
 exact q1 s rfl (d.ret rfl)
theorem a1P {w0 S0 p2 k3 g6 f7 cp8 s1} {f5:Stage→Option Bool} {r} (u:K8 s1 f5=some r) (hS:Dm S0 w0) (h4:(Sq p2 k3 s1).p S0 w0) (h9:(a5X Tryz.prog g6 f7 cp8 f5).p S0 w0):Ck Tryz.prog 179 #[sl p2 k3 s1,.func (.func g6) f7.toArray cp8.toArray] w0 S0 [] J7 r:=by
 refine en 19 func179 rfl hS rfl rfl rfl fun a s d=>?_
 have d:=(d.addE h4).addE h9
 refine sz0 1 s rfl fun a s=>?_
 refine wp_seq (sz0 3 s rfl fun a s=>?_)
 refine wp_block (u7 (fun sv90 a w=>∃ Sv142,Sl 19 [(0,sl p2 k3 s1),(1,.func (.func g6) f7.toArray cp8.toArray),(7,iv (s1.length:Int)),(8,iv sv90)] a∧Wd ⟨w0,S0,[]⟩ Sv142 [] [Sq p2 k3 s1,a5X Tryz.prog g6 f7 cp8 f5] w) 0 u ⟨S0,wj s d [] [1,0]⟩ ?_)
 repeat clear u
 rintro sv90 a w tv169 ⟨Sv142,s,d⟩ u hd168
 refine sz0 1 s rfl fun a s=>?_
 refine wp_seq (cd s u rfl (fun u=>?_) fun u=>?_)
 ·refine sk (wp_seq (wp_block (sz0 2 s rfl fun a s=>?_)))
  refine sn0 3 s rfl fun a s=>?_
  obtain ⟨x200,h198,u⟩:=bt u
  obtain ⟨b206,o207,q204,c205,h208,h201,h202,h203,h199⟩:=d.elemV 0 rfl h198
  have hsv209:=s
  have hwv210:=d
  subst h208
  have s:=hsv209
  have d:=hwv210
  obtain ⟨_,_,_,_,_,_,_,_,_,_,rfl,rfl,rfl,rfl,rfl,rfl,rfl,rfl,⟨p211,n212,k213,rfl,h214⟩,rfl,rfl⟩:=h199
  obtain rfl:=h214.1
  have d:=(d.addE (e:=SlA p211 _ k213 x200.Taps) h214).addE h203
  refine sv s (o8 runUnderlying37 sizeOf138 rfl rfl h201.1 h201.2 h202) rfl fun a s=>?_
  refine sv s (D9 (j:=0) (d.ceAt 0 rfl) rfl isAgg138 sizeOf138 rfl rfl) rfl fun a s=>?_
  obtain ⟨rv216,h215,u⟩:=bt u
  refine q9 s ((d.bE 3 rfl).2 a2a.rfl' d.bdom ⟨_,_,_,_,_,_,_,_,_,_,rfl,rfl,rfl,rfl,rfl,rfl,rfl,rfl,⟨_,_,_,rfl,d.bE 1 rfl⟩,rfl,rfl⟩ h215) (a4z (d.bE 3 rfl).1 rfl rfl) trivial rfl rfl ?_
  rintro v220 Sv217 w a h218 rfl s
  have d:=d.callB h218
  refine nl (cd s u rfl (fun u=>?_) fun u=>?_)
  ·refine sz0 2 s rfl fun a s=>?_
   obtain rfl:=oi u
   have h223:=hd168 _ rfl
   subst h223
   exact wp_ret (r9 (j3 (j3 (r9 (j3 (rt s rfl (d.ret rfl)))))))
  refine wp_skip (l9 (tn (wp_region_lit (rz0 2 s rfl fun a s=>?_))))
  exact ⟨_,io u,Sv142,wj s d [] [2,3]⟩
 obtain ⟨rv224,u,h225⟩:=Y7 u
 have h225:=(hd168 _ h225.symm).symm
 subst h225
 refine wp_exit (j4 (j4 (o9 (tn (sz0 1 s rfl fun a s=>?_)))))
 obtain rfl:=oi u
 exact q1 s rfl (d.ret rfl)
theorem a1c {w0 S0 p2 k3 g6 f7 cp8 s1} {f5:Stage→Option Bool} {r} (u:A7 s1 f5=some r) (hS:Dm S0 w0) (h4:(Sq p2 k3 s1).p S0 w0) (h9:(a5X Tryz.prog g6 f7 cp8 f5).p S0 w0):Ck Tryz.prog 144 #[sl p2 k3 s1,.func (.func g6) f7.toArray cp8.toArray] w0 S0 [] l7 r:=by
 refine en 9 func144 rfl hS rfl rfl rfl fun a s d=>?_
 have d:=(d.addE h4).addE h9
 refine sz0 1 s rfl fun a s=>?_
 refine sn0 2 s rfl fun a s=>?_
 obtain ⟨rv11,h10,u⟩:=bt u
 refine cV s d (a1P h10 d.bdom (d.bE 1 rfl) (d.bE 0 rfl)) (d9 call179 rfl) rfl fun a w s d=>?_
 refine rz0 2 s rfl fun a s=>?_
 obtain rfl:=oi u
 exact q1 s rfl (d.ret rfl)
theorem a0V {w0 S0 n1 low2 high3 r} (u:Y4 n1 low2 high3=some r) (hS:Dm S0 w0):Ck Tryz.prog 180 #[iv n1,iv low2,iv high3] w0 S0 [] l7 r:=by
 refine en 15 func180 rfl hS rfl rfl rfl fun a s d=>?_
 refine sz0 1 s rfl fun a s=>?_
 refine sn0 4 s rfl fun a s=>?_
 refine rA 4 10 [] s d rfl rfl rfl rfl rfl fun a s=>?_
 refine rz0 1 s rfl fun a s=>?_
 obtain rfl:=oi u
 exact q1 s rfl (d.ret rfl)
theorem a4M {w0 S0 p2 k3 g6 f7 cp8 s1} {f5:Int→Option Bool} {r} (u:U0 s1 f5=some r) (hS:Dm S0 w0) (h4:(Sq p2 k3 s1).p S0 w0) (h9:(a5X Tryz.prog g6 f7 cp8 f5).p S0 w0):Ck Tryz.prog 206 #[sl p2 k3 s1,.func (.func g6) f7.toArray cp8.toArray] w0 S0 [] J7 r:=by
 refine en 19 func206 rfl hS rfl rfl rfl fun a s d=>?_
 have d:=(d.addE h4).addE h9
 refine sz0 1 s rfl fun a s=>?_
 refine wp_seq (sz0 3 s rfl fun a s=>?_)
 refine wp_block (u7 (fun sv78 a w=>∃ Sv122,Sl 19 [(0,sl p2 k3 s1),(1,.func (.func g6) f7.toArray cp8.toArray),(7,iv (s1.length:Int)),(8,iv sv78)] a∧Wd ⟨w0,S0,[]⟩ Sv122 [] [Sq p2 k3 s1,a5X Tryz.prog g6 f7 cp8 f5] w) 0 u ⟨S0,wj s d [] [1,0]⟩ ?_)
 repeat clear u
 rintro sv78 a w tv145 ⟨Sv122,s,d⟩ u hd144
 refine sz0 1 s rfl fun a s=>?_
 refine wp_seq (cd s u rfl (fun u=>?_) fun u=>?_)
 ·refine sk (wp_seq (wp_block (sz0 2 s rfl fun a s=>?_)))
  refine sn0 3 s rfl fun a s=>?_
  obtain ⟨x172,h170,u⟩:=bt u
  obtain ⟨b178,o179,q176,c177,h180,h173,h174,h175,h171⟩:=d.elemV 0 rfl h170
  have hsv181:=s
  have hwv182:=d
  subst h180
  have s:=hsv181
  have d:=hwv182
  obtain ⟨_,rfl,rfl⟩:=h171
  have d:=d.addE h175
  refine sv s (o8 runUnderlying22 sizeOf3 rfl rfl h173.1 h173.2 h174) rfl fun a s=>?_
  refine sv s (F5 (j:=0) (d.ceAt 0 rfl) rfl isAgg3 rfl) rfl fun a s=>?_
  obtain ⟨rv184,h183,u⟩:=bt u
  refine q9 s ((d.bE 2 rfl).2 a2a.rfl' d.bdom ⟨_,rfl,rfl⟩ h183) (a4z (d.bE 2 rfl).1 rfl rfl) trivial rfl rfl ?_
  rintro v188 Sv185 w a h186 rfl s
  have d:=d.callB h186
  refine nl (cd s u rfl (fun u=>?_) fun u=>?_)
  ·refine sz0 2 s rfl fun a s=>?_
   obtain rfl:=oi u
   have h191:=hd144 _ rfl
   subst h191
   exact wp_ret (r9 (j3 (j3 (r9 (j3 (rt s rfl (d.ret rfl)))))))
  refine wp_skip (l9 (tn (wp_region_lit (rz0 2 s rfl fun a s=>?_))))
  exact ⟨_,io u,Sv122,wj s d [] [1,2]⟩
 obtain ⟨rv192,u,h193⟩:=Y7 u
 have h193:=(hd144 _ h193.symm).symm
 subst h193
 refine wp_exit (j4 (j4 (o9 (tn (sz0 1 s rfl fun a s=>?_)))))
 obtain rfl:=oi u
 exact q1 s rfl (d.ret rfl)
theorem a3Y {w0 S0 p2 k3 g6 f7 cp8 s1} {f5:Int→Option Bool} {r} (u:Q3 s1 f5=some r) (hS:Dm S0 w0) (h4:(Sq p2 k3 s1).p S0 w0) (h9:(a5X Tryz.prog g6 f7 cp8 f5).p S0 w0):Ck Tryz.prog 194 #[sl p2 k3 s1,.func (.func g6) f7.toArray cp8.toArray] w0 S0 [] l7 r:=by
 refine en 9 func194 rfl hS rfl rfl rfl fun a s d=>?_
 have d:=(d.addE h4).addE h9
 refine sz0 1 s rfl fun a s=>?_
 refine sn0 2 s rfl fun a s=>?_
 obtain ⟨rv11,h10,u⟩:=bt u
 refine cV s d (a4M h10 d.bdom (d.bE 1 rfl) (d.bE 0 rfl)) (d9 call206 rfl) rfl fun a w s d=>?_
 refine rz0 2 s rfl fun a s=>?_
 obtain rfl:=oi u
 exact q1 s rfl (d.ret rfl)
theorem a6N {w0 S0 n1 r} (u:a0b n1=some r) (hS:Dm S0 w0):Ck Tryz.prog 195 #[iv n1] w0 S0 [] l7 r:=by
 refine en 6 func195 rfl hS rfl rfl rfl fun a s d=>?_
 refine sz0 1 s rfl fun a s=>?_
 refine sn0 1 s rfl fun a s=>?_
 obtain ⟨rv3,h2,u⟩:=bt u
 refine cV s d (a0V h2 d.bdom) (d9 call180 rfl) rfl fun a w s d=>?_
 refine rz0 2 s rfl fun a s=>?_
 obtain rfl:=oi u
 exact q1 s rfl (d.ret rfl)
theorem a6M (S0:Nat→Prop) (w0:World):(a5X Tryz.prog 195 [] [] a0b).p S0 w0:=by
  refine ⟨call195,?_⟩
  rintro S1 w1 hk hS c0 x0 r1 ⟨_,rfl,rfl⟩ hf
  exact a6N hf hS
theorem a3K {w0 S0 p2 k3 l1 r} (u:V3 l1=some r) (hS:Dm S0 w0) (h4:(Sq p2 k3 l1).p S0 w0):Ck Tryz.prog 181 #[sl p2 k3 l1] w0 S0 [] l7 r:=by
 refine en 6 func181 rfl hS rfl rfl rfl fun a s d=>?_
 have d:=d.addE h4
 refine sz0 1 s rfl fun a s=>?_
 refine sn0 1 s rfl fun a s=>?_
 obtain ⟨rv6,h5,u⟩:=bt u
 refine cV s d (a3Y h5 d.bdom (d.bE 0 rfl) (a6M _ _)) (d9 call194 rfl) rfl fun a w s d=>?_
 refine rz0 2 s rfl fun a s=>?_
 obtain rfl:=oi u
 exact q1 s rfl (d.ret rfl)
theorem a9U {w0 S0 p2 k3 l1 r} (u:a1o l1=some r) (hS:Dm S0 w0) (h4:(Sq p2 k3 l1).p S0 w0):Ck Tryz.prog 182 #[sl p2 k3 l1] w0 S0 [] J7 r:=by
 refine en 17 func182 rfl hS rfl rfl rfl fun a s d=>?_
 have d:=d.addE h4
 refine sz0 1 s rfl fun a s=>?_
 refine sz0 1 s rfl fun a s=>?_
 refine wp_seq (sz0 3 s rfl fun a s=>?_)
 obtain ⟨e59,h94,u⟩:=bt u
 refine x9 (fun a w=>∃ Sv60,Sl 17 [(3,iv e59)] a∧Wd ⟨w0,S0,[]⟩ Sv60 [] [] w) ?_ ?_
 ·refine wp_block (u7 (fun sv5 a w=>∃ Sv39,Sl 17 [(3,iv sv5.1),(6,sl p2 k3 l1),(7,iv (l1.length:Int)),(8,iv sv5.2)] a∧Wd ⟨w0,S0,[]⟩ Sv39 [] [Sq p2 k3 l1] w) (0,0) h94 ⟨S0,wj s d [] [0]⟩ ?_)
  clear h94
  repeat clear u
  rintro sv5 a w tv57 ⟨Sv39,s,d⟩ u hd56
  refine sz0 1 s rfl fun a s=>?_
  refine wp_seq (cd s u rfl (fun u=>?_) fun u=>?_)
  ·refine sk (wp_seq (wp_block (sr ?_)))
   obtain ⟨x80,h78,u⟩:=bt u
   obtain ⟨b86,o87,q84,c85,h88,h81,h82,h83,h79⟩:=d.elemV 0 rfl h78
   have hsv89:=s
   have hwv90:=d
   subst h88
   have s:=hsv89
   have d:=hwv90
   obtain ⟨_,rfl,rfl⟩:=h79
   have d:=d.addE h83
   refine sv s (o8 runUnderlying22 sizeOf3 rfl rfl h81.1 h81.2 h82) rfl fun a s=>?_
   refine sv s (F5 (j:=0) (d.ceAt 0 rfl) rfl isAgg3 rfl) rfl fun a s=>?_
   refine rz0 1 s rfl fun a s=>?_
   refine wp_region_lit (rn0 3 s rfl fun a s=>?_)
   obtain ⟨n92,h91,u⟩:=bt u
   refine sv s (q8 rfl h91) rfl fun a s=>?_
   refine wpList_nil ?_
   refine l9 (tn (wp_region_lit (rz0 2 s rfl fun a s=>?_)))
   exact ⟨_,io u,Sv39,wj s d [] [1]⟩
  refine wp_exit (j4 (j4 (o9 ?_)))
  obtain rfl:=oi u
  have h93:=hd56 _ rfl
  subst h93
  exact tn ⟨Sv39,wj s d [] []⟩
 rintro a w ⟨Sv60,s,d⟩
 refine tn (sz0 2 s rfl fun a s=>?_)
 obtain rfl:=oi u
 exact q1 s rfl (d.ret rfl)
theorem a6v {w0 S0 p2 k3 s1 r} (u:O4 s1=some r) (hS:Dm S0 w0) (h4:(Sq p2 k3 s1.Taps).p S0 w0):Ck Tryz.prog 146 #[V138 s1 p2 k3] w0 S0 [] l7 r:=by
 refine en 111 func146 rfl hS rfl rfl rfl fun a s d=>?_
 have d:=d.addE h4
 refine sr (wb (a1y s1 p2 k3) s d rfl fun b5 a w s d=>?_)
 refine rz0 1 s rfl fun a s=>?_
 refine sn 5 [0] s d rfl rfl fun a s=>?_
 refine rA 4 8 [0] s d rfl rfl rfl rfl rfl fun a s=>?_
 refine mv s rfl rfl fun a s=>?_
 refine rA 4 13 [0] s d rfl rfl rfl rfl rfl fun a s=>?_
 refine rz0 1 s rfl fun a s=>?_
 refine wp_seq (sz 2 [0] s d rfl rfl fun a s=>?_)
 refine wp_block (sz0 2 s rfl fun a s=>?_)
 refine cd s u rfl (fun u=>?_) fun u=>?_
 ·refine sn0 2 s rfl fun a s=>?_
  refine o7 8 (fun a w1=>w=w1∧Sl 111 [(1,pt b5),(31,.bool (((((s1.Taps.length:Int) == 0) && (s1.Factor == 0)) && (s1.Shift == 0)) && ((s1.Num.e0 == s1.Num.e0) && ((s1.Num.e1 == 0) && ((s1.Num.e2 == 0) && true)))))] a) ?_ ?_
  ·rcases Bool.eq_false_or_eq_true ((((s1.Taps.length:Int) == 0) && (s1.Factor == 0)) && (s1.Shift == 0)) with h379 | h379
   ·have s:=s.bT 23 rfl h379
    refine rn 3 [0] s d rfl rfl fun a s=>?_
    refine y8 s (X0 (q:=1) runUnderlying136 sizeOf3 rfl rfl (by decide) (by decide) rfl) ⟨_,rfl,rfl⟩ rfl rfl fun a s=>?_
    refine y8 s (V5 (d.ownAt 0 rfl) rfl isAgg3 rfl) ⟨_,rfl,rfl⟩ rfl rfl fun a s=>?_
    refine y8 s (z8 (vs:=[(0,iv s1.Num.e0)]) a5v rfl rfl) ⟨_,rfl,rfl⟩ rfl rfl fun a s=>?_
    refine y8 s (a1Q (by kernel_rfl) rfl rfl (a1J runUnderlying136 sizeOf3 (EqA.cons1 isAgg3 rfl rfl (F4 runUnderlying3) (EqA.cons1 isAgg3 rfl rfl (F4 runUnderlying3) (EqA.cons1 isAgg3 rfl rfl (F4 runUnderlying3) EqA.nil))))) ⟨_,rfl,rfl⟩ rfl rfl fun a s=>?_
    refine rz0 1 s rfl fun a s=>?_
    exact ⟨rfl,(s.fix 31 (.bool (((((s1.Taps.length:Int) == 0) && (s1.Factor == 0)) && (s1.Shift == 0)) && ((s1.Num.e0 == s1.Num.e0) && ((s1.Num.e1 == 0) && ((s1.Num.e2 == 0) && true))))) rfl (a3i h379)).weaken _ ⟨rfl,rfl,trivial⟩⟩
   have s:=s.bF 23 rfl h379
   refine rz0 8 s rfl fun a s=>?_
   exact ⟨rfl,(s.fix 31 (.bool (((((s1.Taps.length:Int) == 0) && (s1.Factor == 0)) && (s1.Shift == 0)) && ((s1.Num.e0 == s1.Num.e0) && ((s1.Num.e1 == 0) && ((s1.Num.e2 == 0) && true))))) rfl (a3h h379)).weaken _ ⟨rfl,rfl,trivial⟩⟩
  rintro a w1 ⟨h420,s⟩
  subst h420
  refine mv s rfl rfl fun a s=>?_
  refine o7 8 (fun a w1=>w=w1∧Sl 111 [(1,pt b5),(40,.bool ((((((s1.Taps.length:Int) == 0) && (s1.Factor == 0)) && (s1.Shift == 0)) && ((s1.Num.e0 == s1.Num.e0) && ((s1.Num.e1 == 0) && ((s1.Num.e2 == 0) && true)))) && ((s1.Den.e0 == s1.Den.e0) && ((s1.Den.e1 == 0) && ((s1.Den.e2 == 0) && true)))))] a) ?_ ?_
  ·rcases Bool.eq_false_or_eq_true (((((s1.Taps.length:Int) == 0) && (s1.Factor == 0)) && (s1.Shift == 0)) && ((s1.Num.e0 == s1.Num.e0) && ((s1.Num.e1 == 0) && ((s1.Num.e2 == 0) && true)))) with h380 | h380
   ·have s:=s.bT 32 rfl h380
    refine rn 3 [0] s d rfl rfl fun a s=>?_
    refine y8 s (X0 (q:=4) runUnderlying136 sizeOf3 rfl rfl (by decide) (by decide) rfl) ⟨_,rfl,rfl⟩ rfl rfl fun a s=>?_
    refine y8 s (V5 (d.ownAt 0 rfl) rfl isAgg3 rfl) ⟨_,rfl,rfl⟩ rfl rfl fun a s=>?_
    refine y8 s (z8 (vs:=[(0,iv s1.Den.e0)]) a5v rfl rfl) ⟨_,rfl,rfl⟩ rfl rfl fun a s=>?_
    refine y8 s (a1Q (by kernel_rfl) rfl rfl (a1J runUnderlying136 sizeOf3 (EqA.cons1 isAgg3 rfl rfl (F4 runUnderlying3) (EqA.cons1 isAgg3 rfl rfl (F4 runUnderlying3) (EqA.cons1 isAgg3 rfl rfl (F4 runUnderlying3) EqA.nil))))) ⟨_,rfl,rfl⟩ rfl rfl fun a s=>?_
    refine rz0 1 s rfl fun a s=>?_
    exact ⟨rfl,(s.fix 40 (.bool ((((((s1.Taps.length:Int) == 0) && (s1.Factor == 0)) && (s1.Shift == 0)) && ((s1.Num.e0 == s1.Num.e0) && ((s1.Num.e1 == 0) && ((s1.Num.e2 == 0) && true)))) && ((s1.Den.e0 == s1.Den.e0) && ((s1.Den.e1 == 0) && ((s1.Den.e2 == 0) && true))))) rfl (a3i h380)).weaken _ ⟨rfl,rfl,trivial⟩⟩
   have s:=s.bF 32 rfl h380
   refine rz0 8 s rfl fun a s=>?_
   exact ⟨rfl,(s.fix 40 (.bool ((((((s1.Taps.length:Int) == 0) && (s1.Factor == 0)) && (s1.Shift == 0)) && ((s1.Num.e0 == s1.Num.e0) && ((s1.Num.e1 == 0) && ((s1.Num.e2 == 0) && true)))) && ((s1.Den.e0 == s1.Den.e0) && ((s1.Den.e1 == 0) && ((s1.Den.e2 == 0) && true))))) rfl (a3h h380)).weaken _ ⟨rfl,rfl,trivial⟩⟩
  rintro a w1 ⟨h419,s⟩
  subst h419
  refine mv s rfl rfl fun a s=>?_
  obtain ⟨c390,hc390,u⟩:=bt u
  refine o7 5 (fun a w=>∃ Sv391,Sl 111 [(1,pt b5),(46,.bool c390)] a∧Wd ⟨w0,S0,[]⟩ Sv391 [.box b5 (a1y s1 p2 k3) 138] [Sq p2 k3 s1.Taps] w) ?_ ?_
  ·rcases Bool.eq_false_or_eq_true ((((((s1.Taps.length:Int) == 0) && (s1.Factor == 0)) && (s1.Shift == 0)) && ((s1.Num.e0 == s1.Num.e0) && ((s1.Num.e1 == 0) && ((s1.Num.e2 == 0) && true)))) && ((s1.Den.e0 == s1.Den.e0) && ((s1.Den.e1 == 0) && ((s1.Den.e2 == 0) && true)))) with h389 | h389
   ·have s:=s.bT 41 rfl h389
    have u:=D5 hc390 h389
    refine y8 s (j5 (o':=1) runUnderlying138 rfl sizeOf136 rfl rfl rfl) ⟨_,rfl,rfl⟩ rfl rfl fun a s=>?_
    refine y8 s (X0 (q:=1) runUnderlying136 sizeOf3 rfl rfl (by decide) (by decide) rfl) ⟨_,rfl,rfl⟩ rfl rfl fun a s=>?_
    refine y8 s (V5 (d.ownAt 0 rfl) rfl isAgg3 rfl) ⟨_,rfl,rfl⟩ rfl rfl fun a s=>?_
    obtain ⟨rv393,h392,u⟩:=bt u
    refine q9 s (a0V h392 d.bdom) (d9 call180 rfl) ⟨_,rfl,rfl⟩ rfl rfl ?_
    rintro v397 Sv394 w a h395 rfl s
    have d:=d.callB h395
    refine sv s (G8 rfl rfl) rfl fun a s=>?_
    refine wpList_nil ?_
    obtain rfl:=oi u
    exact tn ⟨S0,wj s d [0] [0]⟩
   have s:=s.bF 41 rfl h389
   have u:=D6 hc390 h389
   refine rn0 5 s rfl fun a s=>?_
   refine wpList_nil ?_
   obtain rfl:=oi u
   exact tn ⟨S0,wj s d [0] [0]⟩
  rintro a w ⟨Sv391,s,d⟩
  refine mv s rfl rfl fun a s=>?_
  obtain ⟨c409,hc409,u⟩:=bt u
  refine o7 5 (fun a w=>∃ Sv410,Sl 111 [(52,.bool c409)] a∧Wd ⟨w0,S0,[]⟩ Sv410 [] [] w) ?_ ?_
  ·rcases Bool.eq_false_or_eq_true c390 with h408 | h408
   ·have s:=s.bT 47 rfl h408
    have u:=D5 hc409 h408
    refine y8 s (j5 (o':=4) runUnderlying138 rfl sizeOf136 rfl rfl rfl) ⟨_,rfl,rfl⟩ rfl rfl fun a s=>?_
    refine y8 s (X0 (q:=4) runUnderlying136 sizeOf3 rfl rfl (by decide) (by decide) rfl) ⟨_,rfl,rfl⟩ rfl rfl fun a s=>?_
    refine y8 s (V5 (d.ownAt 0 rfl) rfl isAgg3 rfl) ⟨_,rfl,rfl⟩ rfl rfl fun a s=>?_
    obtain ⟨rv412,h411,u⟩:=bt u
    refine q9 s (a0V h411 d.bdom) (d9 call180 rfl) ⟨_,rfl,rfl⟩ rfl rfl ?_
    rintro v416 Sv413 w a h414 rfl s
    have d:=d.callB h414
    refine sv s (G8 rfl rfl) rfl fun a s=>?_
    refine wpList_nil ?_
    obtain rfl:=oi u
    exact tn ⟨Sv391,wj s d [] []⟩
   have s:=s.bF 47 rfl h408
   have u:=D6 hc409 h408
   refine rn0 5 s rfl fun a s=>?_
   refine wpList_nil ?_
   obtain rfl:=oi u
   exact tn ⟨Sv391,wj s d [] []⟩
  rintro a w ⟨Sv410,s,d⟩
  refine rz0 1 s rfl fun a s=>?_
  obtain rfl:=oi u
  exact wp_ret (r9 (j3 (rt s rfl (d.ret rfl))))
 refine sz0 2 s rfl fun a s=>?_
 refine cd s u rfl (fun u=>?_) fun u=>?_
 ·refine sn0 2 s rfl fun a s=>?_
  obtain ⟨c574,hc574,u⟩:=bt u
  refine o7 4 (fun a w=>∃ Sv575,Sl 111 [(1,pt b5),(60,.bool c574)] a∧Wd ⟨w0,S0,[]⟩ Sv575 [] [CeA b5 0 (a1y s1 p2 k3),Sq p2 k3 s1.Taps] w) ?_ ?_
  ·rcases Bool.eq_false_or_eq_true ((((s1.Taps.length:Int) == 0) && (s1.Factor == 0)) && (s1.Shift == 0)) with h573 | h573
   ·have s:=s.bT 56 rfl h573
    have u:=D5 hc574 h573
    refine y8 s (j5 (o':=1) runUnderlying138 rfl sizeOf136 rfl rfl rfl) ⟨_,rfl,rfl⟩ rfl rfl fun a s=>?_
    obtain ⟨Sv576,d⟩:=a9g d 0 rfl
    have d:=d.addE (e:=SlA (α:=Int) (some ⟨b5,1,none⟩) ([s1.Num.e0,s1.Num.e1,s1.Num.e2]:List Int).length 3 ([s1.Num.e0,s1.Num.e1,s1.Num.e2]:List Int)) (b1N (o:=1) (d.envAt 0 rfl) rfl ⟨⟨_,rfl,rfl⟩,⟨⟨_,rfl,rfl⟩,⟨⟨_,rfl,rfl⟩,rfl⟩⟩⟩)
    refine y8 s (a6C runUnderlying136 sizeOf3 rfl rfl) ⟨_,rfl,rfl⟩ rfl rfl fun a s=>?_
    obtain ⟨rv578,h577,u⟩:=bt u
    refine q9 s (a3K h577 d.bdom (d.bE 0 rfl)) (d9 call181 rfl) ⟨_,rfl,rfl⟩ rfl rfl ?_
    rintro v582 Sv579 w a h580 rfl s
    have d:=d.callB h580
    refine sv s (G8 rfl rfl) rfl fun a s=>?_
    refine wpList_nil ?_
    obtain rfl:=oi u
    exact tn ⟨Sv576,wj s d [] [1,2]⟩
   have s:=s.bF 56 rfl h573
   have u:=D6 hc574 h573
   refine rn0 4 s rfl fun a s=>?_
   refine wpList_nil ?_
   obtain ⟨Sv585,d⟩:=a9g d 0 rfl
   obtain rfl:=oi u
   exact tn ⟨Sv585,wj s d [] [0,1]⟩
  rintro a w ⟨Sv575,s,d⟩
  refine mv s rfl rfl fun a s=>?_
  obtain ⟨c595,hc595,u⟩:=bt u
  refine o7 4 (fun a w=>∃ Sv596,Sl 111 [(1,pt b5),(65,.bool c595)] a∧Wd ⟨w0,S0,[]⟩ Sv596 [] [CeA b5 0 (a1y s1 p2 k3),Sq p2 k3 s1.Taps] w) ?_ ?_
  ·rcases Bool.eq_false_or_eq_true c574 with h594 | h594
   ·have s:=s.bT 61 rfl h594
    have u:=D5 hc595 h594
    refine y8 s (j5 (o':=4) runUnderlying138 rfl sizeOf136 rfl rfl rfl) ⟨_,rfl,rfl⟩ rfl rfl fun a s=>?_
    have d:=d.addE (e:=SlA (α:=Int) (some ⟨b5,4,none⟩) ([s1.Den.e0,s1.Den.e1,s1.Den.e2]:List Int).length 3 ([s1.Den.e0,s1.Den.e1,s1.Den.e2]:List Int)) (b1N (o:=4) (d.envAt 0 rfl) rfl ⟨⟨_,rfl,rfl⟩,⟨⟨_,rfl,rfl⟩,⟨⟨_,rfl,rfl⟩,rfl⟩⟩⟩)
    refine y8 s (a6C runUnderlying136 sizeOf3 rfl rfl) ⟨_,rfl,rfl⟩ rfl rfl fun a s=>?_
    obtain ⟨rv598,h597,u⟩:=bt u
    refine q9 s (a3K h597 d.bdom (d.bE 0 rfl)) (d9 call181 rfl) ⟨_,rfl,rfl⟩ rfl rfl ?_
    rintro v602 Sv599 w a h600 rfl s
    have d:=d.callB h600
    refine sv s (G8 rfl rfl) rfl fun a s=>?_
    refine wpList_nil ?_
    obtain rfl:=oi u
    exact tn ⟨Sv575,wj s d [] [1,2]⟩
   have s:=s.bF 61 rfl h594
   have u:=D6 hc595 h594
   refine rn0 4 s rfl fun a s=>?_
   refine wpList_nil ?_
   obtain rfl:=oi u
   exact tn ⟨Sv575,wj s d [] [0,1]⟩
  rintro a w ⟨Sv596,s,d⟩
  refine mv s rfl rfl fun a s=>?_
  refine o7 5 (fun a w1=>w=w1∧Sl 111 [(71,.bool (c595 && (s1.Den.e0 != 0)))] a) ?_ ?_
  ·rcases Bool.eq_false_or_eq_true c595 with h605 | h605
   ·have s:=s.bT 66 rfl h605
    refine y8 s (j5 (o':=4) runUnderlying138 rfl sizeOf136 rfl rfl rfl) ⟨_,rfl,rfl⟩ rfl rfl fun a s=>?_
    refine y8 s (X0 (q:=4) runUnderlying136 sizeOf3 rfl rfl (by decide) (by decide) rfl) ⟨_,rfl,rfl⟩ rfl rfl fun a s=>?_
    refine y8 s (F5 (j:=4) (d.ceAt 0 rfl) rfl isAgg3 rfl) ⟨_,rfl,rfl⟩ rfl rfl fun a s=>?_
    refine rz0 2 s rfl fun a s=>?_
    exact ⟨rfl,(s.fix 71 (.bool (c595 && (s1.Den.e0 != 0))) rfl (a3i h605)).weaken _ ⟨rfl,trivial⟩⟩
   have s:=s.bF 66 rfl h605
   refine rz0 5 s rfl fun a s=>?_
   exact ⟨rfl,(s.fix 71 (.bool (c595 && (s1.Den.e0 != 0))) rfl (a3h h605)).weaken _ ⟨rfl,trivial⟩⟩
  rintro a w1 ⟨h606,s⟩
  subst h606
  refine rz0 1 s rfl fun a s=>?_
  obtain rfl:=oi u
  exact wp_ret (r9 (j3 (rt s rfl (d.ret rfl))))
 refine sz0 2 s rfl fun a s=>?_
 refine cd s u rfl (fun u=>?_) fun u=>?_
 ·refine sn 2 [0] s d rfl rfl fun a s=>?_
  refine sv s (z8 (vs:=[]) a5v rfl rfl) rfl fun a s=>?_
  refine sv s (a1Q (by kernel_rfl) rfl rfl (a1J runUnderlying136 sizeOf3 (EqA.cons1 isAgg3 rfl rfl (F4 runUnderlying3) (EqA.cons1 isAgg3 rfl rfl (F4 runUnderlying3) (EqA.cons1 isAgg3 rfl rfl (F4 runUnderlying3) EqA.nil))))) rfl fun a s=>?_
  refine mv s rfl rfl fun a s=>?_
  refine o7 5 (fun a w1=>w=w1∧Sl 111 [(1,pt b5),(83,.bool (((s1.Num.e0 == 0) && ((s1.Num.e1 == 0) && ((s1.Num.e2 == 0) && true))) && ((s1.Den.e0 == 0) && ((s1.Den.e1 == 0) && ((s1.Den.e2 == 0) && true)))))] a) ?_ ?_
  ·rcases Bool.eq_false_or_eq_true ((s1.Num.e0 == 0) && ((s1.Num.e1 == 0) && ((s1.Num.e2 == 0) && true))) with h706 | h706
   ·have s:=s.bT 78 rfl h706
    refine rn 2 [0] s d rfl rfl fun a s=>?_
    refine y8 s (z8 (vs:=[]) a5v rfl rfl) ⟨_,rfl,rfl⟩ rfl rfl fun a s=>?_
    refine y8 s (a1Q (by kernel_rfl) rfl rfl (a1J runUnderlying136 sizeOf3 (EqA.cons1 isAgg3 rfl rfl (F4 runUnderlying3) (EqA.cons1 isAgg3 rfl rfl (F4 runUnderlying3) (EqA.cons1 isAgg3 rfl rfl (F4 runUnderlying3) EqA.nil))))) ⟨_,rfl,rfl⟩ rfl rfl fun a s=>?_
    refine rz0 1 s rfl fun a s=>?_
    exact ⟨rfl,(s.fix 83 (.bool (((s1.Num.e0 == 0) && ((s1.Num.e1 == 0) && ((s1.Num.e2 == 0) && true))) && ((s1.Den.e0 == 0) && ((s1.Den.e1 == 0) && ((s1.Den.e2 == 0) && true))))) rfl (a3i h706)).weaken _ ⟨rfl,rfl,trivial⟩⟩
   have s:=s.bF 78 rfl h706
   refine rz0 5 s rfl fun a s=>?_
   exact ⟨rfl,(s.fix 83 (.bool (((s1.Num.e0 == 0) && ((s1.Num.e1 == 0) && ((s1.Num.e2 == 0) && true))) && ((s1.Den.e0 == 0) && ((s1.Den.e1 == 0) && ((s1.Den.e2 == 0) && true))))) rfl (a3h h706)).weaken _ ⟨rfl,rfl,trivial⟩⟩
  rintro a w1 ⟨h802,s⟩
  subst h802
  refine mv s rfl rfl fun a s=>?_
  obtain ⟨c716,hc716,u⟩:=bt u
  refine o7 5 (fun a w=>∃ Sv717,Sl 111 [(1,pt b5),(89,.bool c716)] a∧Wd ⟨w0,S0,[]⟩ Sv717 [.box b5 (a1y s1 p2 k3) 138] [Sq p2 k3 s1.Taps] w) ?_ ?_
  ·rcases Bool.eq_false_or_eq_true (((s1.Num.e0 == 0) && ((s1.Num.e1 == 0) && ((s1.Num.e2 == 0) && true))) && ((s1.Den.e0 == 0) && ((s1.Den.e1 == 0) && ((s1.Den.e2 == 0) && true)))) with h715 | h715
   ·have s:=s.bT 84 rfl h715
    have u:=D5 hc716 h715
    refine rn 3 [0] s d rfl rfl fun a s=>?_
    obtain ⟨rv719,h718,u⟩:=bt u
    refine q9 s (a0V h718 d.bdom) (d9 call180 rfl) ⟨_,rfl,rfl⟩ rfl rfl ?_
    rintro v723 Sv720 w a h721 rfl s
    have d:=d.callB h721
    refine sv s (G8 rfl rfl) rfl fun a s=>?_
    refine wpList_nil ?_
    obtain rfl:=oi u
    exact tn ⟨S0,wj s d [0] [0]⟩
   have s:=s.bF 84 rfl h715
   have u:=D6 hc716 h715
   refine rn0 5 s rfl fun a s=>?_
   refine wpList_nil ?_
   obtain rfl:=oi u
   exact tn ⟨S0,wj s d [0] [0]⟩
  rintro a w ⟨Sv717,s,d⟩
  refine mv s rfl rfl fun a s=>?_
  obtain ⟨c735,hc735,u⟩:=bt u
  refine o7 4 (fun a w=>∃ Sv736,Sl 111 [(1,pt b5),(94,.bool c735)] a∧Wd ⟨w0,S0,[]⟩ Sv736 [.box b5 (a1y s1 p2 k3) 138] [Sq p2 k3 s1.Taps] w) ?_ ?_
  ·rcases Bool.eq_false_or_eq_true c716 with h734 | h734
   ·have s:=s.bT 90 rfl h734
    have u:=D5 hc735 h734
    refine rn 2 [0] s d rfl rfl fun a s=>?_
    obtain ⟨rv738,h737,u⟩:=bt u
    refine q9 s (a3K h737 d.bdom (d.bE 0 rfl)) (d9 call181 rfl) ⟨_,rfl,rfl⟩ rfl rfl ?_
    rintro v742 Sv739 w a h740 rfl s
    have d:=d.callB h740
    refine sv s (G8 rfl rfl) rfl fun a s=>?_
    refine wpList_nil ?_
    obtain rfl:=oi u
    exact tn ⟨Sv717,wj s d [0] [0]⟩
   have s:=s.bF 90 rfl h734
   have u:=D6 hc735 h734
   refine rn0 4 s rfl fun a s=>?_
   refine wpList_nil ?_
   obtain rfl:=oi u
   exact tn ⟨Sv717,wj s d [0] [0]⟩
  rintro a w ⟨Sv736,s,d⟩
  refine mv s rfl rfl fun a s=>?_
  obtain ⟨c754,hc754,u⟩:=bt u
  refine o7 5 (fun a w=>∃ Sv755,Sl 111 [(1,pt b5),(100,.bool c754)] a∧Wd ⟨w0,S0,[]⟩ Sv755 [.box b5 (a1y s1 p2 k3) 138] [Sq p2 k3 s1.Taps] w) ?_ ?_
  ·rcases Bool.eq_false_or_eq_true c735 with h753 | h753
   ·have s:=s.bT 95 rfl h753
    have u:=D5 hc754 h753
    refine rn 2 [0] s d rfl rfl fun a s=>?_
    obtain ⟨rv757,h756,u⟩:=bt u
    refine q9 s (a9U h756 d.bdom (d.bE 0 rfl)) (d9 call182 rfl) ⟨_,rfl,rfl⟩ rfl rfl ?_
    rintro v761 Sv758 w a h759 rfl s
    have d:=d.callB h759
    refine rn0 2 s rfl fun a s=>?_
    refine wpList_nil ?_
    obtain rfl:=oi u
    exact tn ⟨Sv736,wj s d [0] [0]⟩
   have s:=s.bF 95 rfl h753
   have u:=D6 hc754 h753
   refine rn0 5 s rfl fun a s=>?_
   refine wpList_nil ?_
   obtain rfl:=oi u
   exact tn ⟨Sv736,wj s d [0] [0]⟩
  rintro a w ⟨Sv755,s,d⟩
  refine mv s rfl rfl fun a s=>?_
  obtain ⟨c773,hc773,u⟩:=bt u
  refine o7 4 (fun a w=>∃ Sv774,Sl 111 [(1,pt b5),(105,.bool c773)] a∧Wd ⟨w0,S0,[]⟩ Sv774 [.box b5 (a1y s1 p2 k3) 138] [Sq p2 k3 s1.Taps] w) ?_ ?_
  ·rcases Bool.eq_false_or_eq_true c754 with h772 | h772
   ·have s:=s.bT 101 rfl h772
    have u:=D5 hc773 h772
    refine rn 2 [0] s d rfl rfl fun a s=>?_
    obtain ⟨rv776,h775,u⟩:=bt u
    refine q9 s (a0V h775 d.bdom) (d9 call180 rfl) ⟨_,rfl,rfl⟩ rfl rfl ?_
    rintro v780 Sv777 w a h778 rfl s
    have d:=d.callB h778
    refine sv s (G8 rfl rfl) rfl fun a s=>?_
    refine wpList_nil ?_
    obtain rfl:=oi u
    exact tn ⟨Sv755,wj s d [0] [0]⟩
   have s:=s.bF 101 rfl h772
   have u:=D6 hc773 h772
   refine rn0 4 s rfl fun a s=>?_
   refine wpList_nil ?_
   obtain rfl:=oi u
   exact tn ⟨Sv755,wj s d [0] [0]⟩
  rintro a w ⟨Sv774,s,d⟩
  refine mv s rfl rfl fun a s=>?_
  obtain ⟨c792,hc792,u⟩:=bt u
  refine o7 4 (fun a w=>∃ Sv793,Sl 111 [(110,.bool c792)] a∧Wd ⟨w0,S0,[]⟩ Sv793 [] [] w) ?_ ?_
  ·rcases Bool.eq_false_or_eq_true c773 with h791 | h791
   ·have s:=s.bT 106 rfl h791
    have u:=D5 hc792 h791
    refine rn 2 [0] s d rfl rfl fun a s=>?_
    obtain ⟨rv795,h794,u⟩:=bt u
    refine q9 s (a0V h794 d.bdom) (d9 call180 rfl) ⟨_,rfl,rfl⟩ rfl rfl ?_
    rintro v799 Sv796 w a h797 rfl s
    have d:=d.callB h797
    refine sv s (G8 rfl rfl) rfl fun a s=>?_
    refine wpList_nil ?_
    obtain rfl:=oi u
    exact tn ⟨Sv774,wj s d [] []⟩
   have s:=s.bF 106 rfl h791
   have u:=D6 hc792 h791
   refine rn0 4 s rfl fun a s=>?_
   refine wpList_nil ?_
   obtain rfl:=oi u
   exact tn ⟨Sv774,wj s d [] []⟩
  rintro a w ⟨Sv793,s,d⟩
  refine rz0 1 s rfl fun a s=>?_
  obtain rfl:=oi u
  exact wp_ret (r9 (j3 (rt s rfl (d.ret rfl))))
 refine wp_skip (l9 (tn (sz0 1 s rfl fun a s=>?_)))
 obtain rfl:=oi u
 exact q1 s rfl (d.ret rfl)
theorem a6L {w0 S0 p2 k3 s1 r} (u:O8 s1=some r) (hS:Dm S0 w0) (h4:(Sq p2 k3 s1.Taps).p S0 w0):Ck Tryz.prog 145 #[V138 s1 p2 k3] w0 S0 [] l7 r:=by
 refine en 6 func145 rfl hS rfl rfl rfl fun a s d=>?_
 have d:=d.addE h4
 refine sr (wb (a1y s1 p2 k3) s d rfl fun b5 a w s d=>?_)
 refine rz0 1 s rfl fun a s=>?_
 refine sn 1 [0] s d rfl rfl fun a s=>?_
 obtain ⟨rv7,h6,u⟩:=bt u
 refine cV s d (a6v h6 d.bdom (d.bE 0 rfl)) (d9 call146 rfl) rfl fun a w s d=>?_
 refine rz0 2 s rfl fun a s=>?_
 obtain rfl:=oi u
 exact q1 s rfl (d.ret rfl)
theorem a6K (S0:Nat→Prop) (w0:World):(a5X Tryz.prog 145 [] [] O8).p S0 w0:=by
  refine ⟨call145,?_⟩
  rintro S1 w1 hk hS c0 x0 r1 ⟨_,_,_,_,_,_,_,_,_,_,rfl,rfl,rfl,rfl,rfl,rfl,rfl,rfl,⟨_,_,_,rfl,e0⟩,rfl,rfl⟩ hf
  obtain rfl:=e0.1
  exact a6L hf hS e0
theorem a8t {w0 S0 p2 k3 l1 r} (u:a2X l1=some r) (hS:Dm S0 w0) (h4:(Sq p2 k3 l1).p S0 w0):Ck Tryz.prog 147 #[sl p2 k3 l1] w0 S0 [] J7 r:=by
 refine en 23 func147 rfl hS rfl rfl rfl fun a s d=>?_
 have d:=d.addE h4
 refine sz0 1 s rfl fun a s=>?_
 refine sz0 1 s rfl fun a s=>?_
 refine wp_seq (sz0 3 s rfl fun a s=>?_)
 refine wp_block (u7 (fun sv85 a w=>∃ Sv137,Sl 23 [(3,iv sv85.1),(6,sl p2 k3 l1),(7,iv (l1.length:Int)),(8,iv sv85.2)] a∧Wd ⟨w0,S0,[]⟩ Sv137 [] [Sq p2 k3 l1] w) (1,0) u ⟨S0,wj s d [] [0]⟩ ?_)
 repeat clear u
 rintro sv85 a w tv164 ⟨Sv137,s,d⟩ u hd163
 refine sz0 1 s rfl fun a s=>?_
 refine wp_seq (cd s u rfl (fun u=>?_) fun u=>?_)
 ·refine sk (wp_seq (x9 (fun a w=>∃ (n192:Int) (Sv191:_),Y9 sv85 n192=some tv164∧Sl 23 [(3,iv n192),(6,sl p2 k3 l1),(7,iv (l1.length:Int)),(8,iv sv85.2)] a∧Wd ⟨w0,S0,[]⟩ Sv191 [] [Sq p2 k3 l1] w) ?_ ?_))
  ·refine wp_block (sr ?_)
   obtain ⟨x195,h193,u⟩:=bt u
   obtain ⟨b201,o202,q199,c200,h203,h196,h197,h198,h194⟩:=d.elemV 0 rfl h193
   have hsv204:=s
   have hwv205:=d
   subst h203
   have s:=hsv204
   have d:=hwv205
   obtain ⟨_,_,_,_,_,_,_,_,_,_,rfl,rfl,rfl,rfl,rfl,rfl,rfl,rfl,⟨p206,n207,k208,rfl,h209⟩,rfl,rfl⟩:=h194
   obtain rfl:=h209.1
   have d:=(d.addE (e:=SlA p206 _ k208 x195.Taps) h209).addE h198
   refine sv s (o8 runUnderlying37 sizeOf138 rfl rfl h196.1 h196.2 h197) rfl fun a s=>?_
   refine sv s (D9 (j:=0) (d.ceAt 0 rfl) rfl isAgg138 sizeOf138 rfl rfl) rfl fun a s=>?_
   refine wa Z0 s d zeroValue138 fun b210 a w s d=>?_
   refine ws (a1y x195 p206 k208) s d 0 rfl rfl rfl sizeOf138 fun a w s d=>?_
   refine nl (wp_seq (sz 3 [0] s d rfl rfl fun a s=>?_))
   refine cd s u rfl (fun u=>?_) fun u=>?_
   ·exact wp_exit (j4 (o9 (tn ⟨sv85.1,Sv137,u,wj s d [] [2]⟩)))
   refine sk (sn 4 [0] s d rfl rfl fun a s=>?_)
   obtain ⟨n214,h213,u⟩:=bt u
   refine sv s (q8 rfl h213) rfl fun a s=>?_
   refine nl (sz0 2 s rfl fun a s=>?_)
   refine cd s u rfl (fun u=>?_) fun u=>?_
   ·refine sz0 1 s rfl fun a s=>?_
    obtain rfl:=oi u
    have h217:=hd163 _ rfl
    subst h217
    exact wp_ret (r9 (j3 (j3 (j3 (r9 (j3 (rt s rfl (d.ret rfl))))))))
   exact wp_skip (l9 (tn ⟨n214,Sv137,u,wj s d [] [2]⟩))
  rintro a w ⟨n192,Sv191,u,s,d⟩
  refine tn (wp_region_lit (rz0 2 s rfl fun a s=>?_))
  exact ⟨_,io u,Sv191,wj s d [] [0]⟩
 obtain ⟨rv218,u,h219⟩:=Y7 u
 have h219:=(hd163 _ h219.symm).symm
 subst h219
 refine wp_exit (j4 (j4 (o9 (tn (sz0 2 s rfl fun a s=>?_)))))
 obtain rfl:=oi u
 exact q1 s rfl (d.ret rfl)
theorem a8W {w0 S0 p2 k3 r1 r} (u:U9 r1=some r) (hS:Dm S0 w0) (h4:(Sq p2 k3 r1.Stages).p S0 w0):Ck Tryz.prog 123 #[.agg #[sl p2 k3 r1.Stages]] w0 S0 [] l7 r:=by
 refine en 16 func123 rfl hS rfl rfl rfl fun a s d=>?_
 have d:=d.addE h4
 refine sr (wb [sl p2 k3 r1.Stages] s d rfl fun b5 a w s d=>?_)
 refine rz0 1 s rfl fun a s=>?_
 refine wp_seq (sn 5 [0] s d rfl rfl fun a s=>?_)
 obtain ⟨c15,hc15,u⟩:=bt u
 refine o7 4 (fun a w=>∃ Sv16,Sl 16 [(1,pt b5),(11,.bool c15)] a∧Wd ⟨w0,S0,[]⟩ Sv16 [.box b5 [sl p2 k3 r1.Stages] 39] [Sq p2 k3 r1.Stages] w) ?_ ?_
 ·rcases Bool.eq_false_or_eq_true (decide (8<(r1.Stages.length:Int))) with h14 | h14
  ·have s:=s.bT 7 rfl h14
   have u:=D5 hc15 h14
   refine rn0 4 s rfl fun a s=>?_
   refine wpList_nil ?_
   obtain rfl:=oi u
   exact tn ⟨S0,wj s d [0] [0]⟩
  have s:=s.bF 7 rfl h14
  have u:=D6 hc15 h14
  refine rn 2 [0] s d rfl rfl fun a s=>?_
  obtain ⟨rv18,h17,u⟩:=bt u
  refine q9 s (a1c h17 d.bdom (d.bE 0 rfl) (a6K _ _)) (d9 call144 rfl) ⟨_,rfl,rfl⟩ rfl rfl ?_
  rintro v22 Sv19 w a h20 rfl s
  have d:=d.callB h20
  refine sv s (a9h rfl rfl) rfl fun a s=>?_
  refine wpList_nil ?_
  obtain rfl:=oi u
  exact tn ⟨S0,wj s d [0] [0]⟩
 rintro a w ⟨Sv16,s,d⟩
 refine nl (cd s u rfl (fun u=>?_) fun u=>?_)
 ·refine sz0 1 s rfl fun a s=>?_
  obtain rfl:=oi u
  exact wp_ret (j3 (rt s rfl (d.ret rfl)))
 refine sk (sn 2 [0] s d rfl rfl fun a s=>?_)
 obtain ⟨rv28,h27,u⟩:=bt u
 refine cV s d (a8t h27 d.bdom (d.bE 0 rfl)) (d9 call147 rfl) rfl fun a w s d=>?_
 refine rz0 2 s rfl fun a s=>?_
 obtain rfl:=oi u
 exact q1 s rfl (d.ret rfl)
theorem a2P {w0 S0 n1 low2 high3 r} (u:a2o n1 low2 high3=some r) (hS:Dm S0 w0):Ck Tryz.prog 124 #[iv n1,iv low2,iv high3] w0 S0 [] l7 r:=by
 refine en 15 func124 rfl hS rfl rfl rfl fun a s d=>?_
 refine sz0 1 s rfl fun a s=>?_
 refine sn0 4 s rfl fun a s=>?_
 refine rA 4 10 [] s d rfl rfl rfl rfl rfl fun a s=>?_
 refine rz0 1 s rfl fun a s=>?_
 obtain rfl:=oi u
 exact q1 s rfl (d.ret rfl)
theorem Q8 {w0 S0 p2 k3 e1 r} (u:Q7 e1=some r) (hS:Dm S0 w0) (h4:(Sq p2 k3 e1.Response.Stages).p S0 w0):Ck Tryz.prog 86 #[V41 e1 p2 k3] w0 S0 [] l7 r:=by
 refine en 46 func86 rfl hS rfl rfl rfl fun a s d=>?_
 have d:=d.addE h4
 refine sr (wb (C41 e1 p2 k3) s d rfl fun b5 a w s d=>?_)
 refine rz0 1 s rfl fun a s=>?_
 refine sn 2 [0] s d rfl rfl fun a s=>?_
 refine wa [iv 0,iv 0,iv 0] s d zeroValue36 fun b6 a w s d=>?_
 refine ws (C36 e1.Position) s d 0 rfl rfl rfl sizeOf36 fun a w s d=>?_
 refine nl (sn 4 [1] s d rfl rfl fun a s=>?_)
 refine rA 6 9 [1,1] s d rfl rfl rfl rfl rfl fun a s=>?_
 refine mv s rfl rfl fun a s=>?_
 refine rA 4 16 [1] s d rfl rfl rfl rfl rfl fun a s=>?_
 refine mv s rfl rfl fun a s=>?_
 obtain ⟨c18,hc18,u⟩:=bt u
 refine o7 4 (fun a w=>∃ Sv19,Sl 46 [(1,pt b5),(3,pt b6),(25,.bool c18)] a∧Wd ⟨w0,S0,[]⟩ Sv19 [.box b5 (C41 e1 p2 k3) 41,.box b6 (C36 e1.Position) 36] [Sq p2 k3 e1.Response.Stages] w) ?_ ?_
 ·rcases Bool.eq_false_or_eq_true (((decide (0≤e1.From)) && (decide (e1.From<e1.To))) && (decide (e1.To≤9007199254740992))) with h17 | h17
  ·have s:=s.bT 21 rfl h17
   have u:=D5 hc18 h17
   refine rn 2 [1] s d rfl rfl fun a s=>?_
   obtain ⟨rv21,h20,u⟩:=bt u
   refine q9 s (b1g h20 d.bdom) (d9 call122 rfl) ⟨_,rfl,rfl⟩ rfl rfl ?_
   rintro v25 Sv22 w a h23 rfl s
   have d:=d.callB h23
   refine sv s (G8 rfl rfl) rfl fun a s=>?_
   refine wpList_nil ?_
   obtain rfl:=oi u
   exact tn ⟨S0,wj s d [1,0] [0]⟩
  have s:=s.bF 21 rfl h17
  have u:=D6 hc18 h17
  refine rn0 4 s rfl fun a s=>?_
  refine wpList_nil ?_
  obtain rfl:=oi u
  exact tn ⟨S0,wj s d [1,0] [0]⟩
 rintro a w ⟨Sv19,s,d⟩
 refine mv s rfl rfl fun a s=>?_
 obtain ⟨c37,hc37,u⟩:=bt u
 refine o7 4 (fun a w=>∃ Sv38,Sl 46 [(3,pt b6),(30,.bool c37)] a∧Wd ⟨w0,S0,[]⟩ Sv38 [.box b6 (C36 e1.Position) 36] [] w) ?_ ?_
 ·rcases Bool.eq_false_or_eq_true c18 with h36 | h36
  ·have s:=s.bT 26 rfl h36
   have u:=D5 hc37 h36
   refine rn 2 [0] s d rfl rfl fun a s=>?_
   obtain ⟨rv40,h39,u⟩:=bt u
   refine q9 s (a8W h39 d.bdom (d.bE 0 rfl)) (d9 call123 rfl) ⟨_,rfl,rfl⟩ rfl rfl ?_
   rintro v44 Sv41 w a h42 rfl s
   have d:=d.callB h42
   refine sv s (G8 rfl rfl) rfl fun a s=>?_
   refine wpList_nil ?_
   obtain rfl:=oi u
   exact tn ⟨Sv19,wj s d [1] []⟩
  have s:=s.bF 26 rfl h36
  have u:=D6 hc37 h36
  refine rn0 4 s rfl fun a s=>?_
  refine wpList_nil ?_
  obtain rfl:=oi u
  exact tn ⟨Sv19,wj s d [1] []⟩
 rintro a w ⟨Sv38,s,d⟩
 refine mv s rfl rfl fun a s=>?_
 obtain ⟨c56,hc56,u⟩:=bt u
 refine o7 4 (fun a w=>∃ Sv57,Sl 46 [(3,pt b6),(35,.bool c56)] a∧Wd ⟨w0,S0,[]⟩ Sv57 [.box b6 (C36 e1.Position) 36] [] w) ?_ ?_
 ·rcases Bool.eq_false_or_eq_true c37 with h55 | h55
  ·have s:=s.bT 31 rfl h55
   have u:=D5 hc56 h55
   refine rn 2 [0] s d rfl rfl fun a s=>?_
   obtain ⟨rv59,h58,u⟩:=bt u
   refine q9 s (a2P h58 d.bdom) (d9 call124 rfl) ⟨_,rfl,rfl⟩ rfl rfl ?_
   rintro v63 Sv60 w a h61 rfl s
   have d:=d.callB h61
   refine sv s (G8 rfl rfl) rfl fun a s=>?_
   refine wpList_nil ?_
   obtain rfl:=oi u
   exact tn ⟨Sv38,wj s d [0] []⟩
  have s:=s.bF 31 rfl h55
  have u:=D6 hc56 h55
  refine rn0 4 s rfl fun a s=>?_
  refine wpList_nil ?_
  obtain rfl:=oi u
  exact tn ⟨Sv38,wj s d [0] []⟩
 rintro a w ⟨Sv57,s,d⟩
 refine mv s rfl rfl fun a s=>?_
 obtain ⟨c75,hc75,u⟩:=bt u
 refine o7 4 (fun a w=>∃ Sv76,Sl 46 [(3,pt b6),(40,.bool c75)] a∧Wd ⟨w0,S0,[]⟩ Sv76 [.box b6 (C36 e1.Position) 36] [] w) ?_ ?_
 ·rcases Bool.eq_false_or_eq_true c56 with h74 | h74
  ·have s:=s.bT 36 rfl h74
   have u:=D5 hc75 h74
   refine rn 2 [0] s d rfl rfl fun a s=>?_
   obtain ⟨rv78,h77,u⟩:=bt u
   refine q9 s (a2P h77 d.bdom) (d9 call124 rfl) ⟨_,rfl,rfl⟩ rfl rfl ?_
   rintro v82 Sv79 w a h80 rfl s
   have d:=d.callB h80
   refine sv s (G8 rfl rfl) rfl fun a s=>?_
   refine wpList_nil ?_
   obtain rfl:=oi u
   exact tn ⟨Sv57,wj s d [0] []⟩
  have s:=s.bF 36 rfl h74
  have u:=D6 hc75 h74
  refine rn0 4 s rfl fun a s=>?_
  refine wpList_nil ?_
  obtain rfl:=oi u
  exact tn ⟨Sv57,wj s d [0] []⟩
 rintro a w ⟨Sv76,s,d⟩
 refine mv s rfl rfl fun a s=>?_
 obtain ⟨c94,hc94,u⟩:=bt u
 refine o7 4 (fun a w=>∃ Sv95,Sl 46 [(45,.bool c94)] a∧Wd ⟨w0,S0,[]⟩ Sv95 [] [] w) ?_ ?_
 ·rcases Bool.eq_false_or_eq_true c75 with h93 | h93
  ·have s:=s.bT 41 rfl h93
   have u:=D5 hc94 h93
   refine rn 2 [0] s d rfl rfl fun a s=>?_
   obtain ⟨rv97,h96,u⟩:=bt u
   refine q9 s (a2P h96 d.bdom) (d9 call124 rfl) ⟨_,rfl,rfl⟩ rfl rfl ?_
   rintro v101 Sv98 w a h99 rfl s
   have d:=d.callB h99
   refine sv s (G8 rfl rfl) rfl fun a s=>?_
   refine wpList_nil ?_
   obtain rfl:=oi u
   exact tn ⟨Sv76,wj s d [] []⟩
  have s:=s.bF 41 rfl h93
  have u:=D6 hc94 h93
  refine rn0 4 s rfl fun a s=>?_
  refine wpList_nil ?_
  obtain rfl:=oi u
  exact tn ⟨Sv76,wj s d [] []⟩
 rintro a w ⟨Sv95,s,d⟩
 refine rz0 1 s rfl fun a s=>?_
 obtain rfl:=oi u
 exact q1 s rfl (d.ret rfl)
theorem a2E {w0 S0 p2 k3 l1 r} (u:a4e l1=some r) (hS:Dm S0 w0) (h4:(Sq p2 k3 l1).p S0 w0):Ck Tryz.prog 102 #[sl p2 k3 l1] w0 S0 [] l7 r:=by
 refine en 34 func102 rfl hS rfl rfl rfl fun a s d=>?_
 have d:=d.addE h4
 refine sz0 1 s rfl fun a s=>?_
 refine wp_seq (sz0 3 s rfl fun a s=>?_)
 refine wp_block (u7 (fun sv121 a w=>∃ Sv197,Sl 34 [(0,sl p2 k3 l1),(5,sl p2 k3 l1),(6,iv (l1.length:Int)),(7,iv sv121)] a∧Wd ⟨w0,S0,[]⟩ Sv197 [] [Sq p2 k3 l1] w) 0 u ⟨S0,wj s d [] [0]⟩ ?_)
 repeat clear u
 rintro sv121 a w tv236 ⟨Sv197,s,d⟩ u hd235
 refine sz0 1 s rfl fun a s=>?_
 refine wp_seq (cd s u rfl (fun u=>?_) fun u=>?_)
 ·refine sk (wp_seq (wp_block (sn0 1 s rfl fun a s=>?_)))
  obtain ⟨x279,h277,u⟩:=bt u
  obtain ⟨b285,o286,q283,c284,h287,h280,h281,h282,h278⟩:=d.elemV 0 rfl h277
  have hsv288:=s
  have hwv289:=d
  subst h287
  have s:=hsv288
  have d:=hwv289
  obtain ⟨_,_,_,_,_,_,_,_,rfl,rfl,rfl,rfl,rfl,rfl,rfl,rfl,⟨p290,n291,k292,rfl,h293⟩⟩:=h278
  obtain rfl:=h293.1
  have d:=(d.addE (e:=SlA p290 _ k292 x279.Response.Stages) h293).addE h282
  refine sv s (o8 runUnderlying71 sizeOf41 rfl rfl h280.1 h280.2 h281) rfl fun a s=>?_
  refine sv s (D9 (j:=0) (d.ceAt 0 rfl) rfl isAgg41 sizeOf41 rfl rfl) rfl fun a s=>?_
  refine wa Z1 s d zeroValue41 fun b294 a w s d=>?_
  refine av s rfl rfl fun a s=>?_
  refine ws (C41 x279 p290 k292) s d 0 rfl rfl rfl sizeOf41 fun a w s d=>?_
  refine nl (wp_seq ?_)
  obtain ⟨rv296,h295,u⟩:=bt u
  obtain ⟨c310,hc310,u⟩:=bt u
  refine y9 (fun a w=>∃ Sv311,Sl 34 [(0,sl (some ⟨b285,o286,none⟩) k3 l1),(5,sl (some ⟨b285,o286,none⟩) k3 l1),(6,iv (l1.length:Int)),(7,iv sv121),(29,.bool c310)] a∧Wd ⟨w0,S0,[]⟩ Sv311 [] [Sq (some ⟨b285,o286,none⟩) k3 l1] w) ?_ ?_
  ·rcases Bool.eq_false_or_eq_true (!rv296) with h312 | h312
   ·have h313:=D5 hc310 h312
    refine h_c [0] [0] d rfl rfl (by kernel_rfl) rfl fun hC d=>?_
    refine gv s 0 rfl rfl hC (fun w hC=>a1a (hC.ownAt 0 rfl) rfl isAgg41 sizeOf41 rfl rfl) fun a s=>?_
    refine ho 1 rfl ?_
    refine cV s d (Q8 h295 d.bdom (d.bE 1 rfl)) (d9 call86 rfl) rfl fun a w s d=>?_
    refine h_n [0] [0] d rfl rfl fun hC=>?_
    refine gn 2 [2,3] [] s hC rfl rfl rfl fun a s=>?_
    have s:=s.bT 15 rfl h312
    refine gn 13 [4,5,6,7,8,9,10,11,12,13,14,15,16] [] s hC rfl rfl rfl fun a s=>?_
    refine gT s 17 rfl rfl hC rfl rfl h313 fun a s=>?_
    refine x8 (by kernel_rfl) ?_
    exact ⟨Sv197,wj s d [] [2]⟩
   have h320:=D6 hc310 h312
   obtain ⟨c333,hc333,h320⟩:=O6 h320
   rcases Bool.eq_false_or_eq_true (decide (0<sv121)) with h334 | h334
   ·have h335:=D5 hc333 h334
    obtain ⟨x338,h336,h335⟩:=O6 h335
    obtain ⟨q342,c343,h339,h340,h341,h337⟩:=d.elemK 2 rfl h336
    obtain ⟨_,_,_,_,_,_,_,_,rfl,rfl,rfl,rfl,rfl,rfl,rfl,rfl,⟨p344,n345,k346,rfl,h347⟩⟩:=h337
    obtain rfl:=h347.1
    have d:=(d.addE (e:=SlA p344 _ k346 x338.Response.Stages) h347).addE h341
    refine h_c [0] [0,2] d rfl rfl (by kernel_rfl) rfl fun hC d=>?_
    refine gv s 0 rfl rfl hC (fun w hC=>a1a (hC.ownAt 0 rfl) rfl isAgg41 sizeOf41 rfl rfl) fun a s=>?_
    refine ho 1 rfl ?_
    refine cV s d (Q8 h295 d.bdom (d.bE 3 rfl)) (d9 call86 rfl) rfl fun a w s d=>?_
    refine h_n [0] [0,2] d rfl rfl fun hC=>?_
    refine gn 2 [2,3] [] s hC rfl rfl rfl fun a s=>?_
    have s:=s.bF 15 rfl h312
    refine gn 3 [4,5,6] [] s hC rfl rfl rfl fun a s=>?_
    have s:=s.bT 18 rfl h334
    refine gn 5 [7,8,9,10,11] [0] s hC rfl rfl rfl fun a s=>?_
    refine gx s 12 rfl ⟨_,rfl,rfl⟩ rfl hC runUnderlying71 sizeOf41 rfl rfl h339 h340 fun a s=>?_
    refine gt s 13 rfl ⟨_,rfl,rfl⟩ rfl hC (fun w hC=>j5 (o':=q342+1) runUnderlying41 rfl sizeOf3 rfl rfl rfl) fun a s=>?_
    refine gt s 14 rfl ⟨_,rfl,rfl⟩ rfl hC (fun w hC=>F5 (j:=1) (hC.ceAt 0 rfl) rfl isAgg3 rfl) fun a s=>?_
    refine gt s 15 rfl ⟨_,rfl,rfl⟩ rfl hC (fun w hC=>b1M rfl rfl) fun a s=>?_
    refine gt s 16 rfl ⟨_,rfl,rfl⟩ rfl hC (fun w hC=>a5W (v:=.bool c333) rfl rfl (vbs h335)) fun a s=>?_
    refine gF s 17 rfl rfl hC rfl rfl h320 fun a s=>?_
    refine x8 (by kernel_rfl) ?_
    exact ⟨Sv197,wj s d [] [4]⟩
   have h354:=D6 hc333 h334
   refine h_c [0] [0] d rfl rfl (by kernel_rfl) rfl fun hC d=>?_
   refine gv s 0 rfl rfl hC (fun w hC=>a1a (hC.ownAt 0 rfl) rfl isAgg41 sizeOf41 rfl rfl) fun a s=>?_
   refine ho 1 rfl ?_
   refine cV s d (Q8 h295 d.bdom (d.bE 1 rfl)) (d9 call86 rfl) rfl fun a w s d=>?_
   refine h_n [0] [0] d rfl rfl fun hC=>?_
   refine gn 2 [2,3] [] s hC rfl rfl rfl fun a s=>?_
   have s:=s.bF 15 rfl h312
   refine gn 3 [4,5,6] [] s hC rfl rfl rfl fun a s=>?_
   have s:=s.bF 18 rfl h334
   refine gn 9 [7,8,9,10,11,12,13,14,15] [] s hC rfl rfl rfl fun a s=>?_
   refine gt s 16 rfl ⟨_,rfl,rfl⟩ rfl hC (fun w hC=>a5V (v:=.bool c333) rfl rfl (vbs h354)) fun a s=>?_
   refine gF s 17 rfl rfl hC rfl rfl h320 fun a s=>?_
   refine x8 (by kernel_rfl) ?_
   exact ⟨Sv197,wj s d [] [2]⟩
  rintro a w ⟨Sv311,s,d⟩
  refine tn (cd s u rfl (fun u=>?_) fun u=>?_)
  ·refine sz0 1 s rfl fun a s=>?_
   obtain rfl:=oi u
   have h363:=hd235 _ rfl
   subst h363
   exact wp_ret (r9 (j3 (j3 (r9 (j3 (rt s rfl (d.ret rfl)))))))
  refine wp_skip (l9 (tn (wp_region_lit (rz0 2 s rfl fun a s=>?_))))
  exact ⟨_,io u,Sv311,wj s d [] [0]⟩
 obtain ⟨rv372,u,h373⟩:=Y7 u
 have h373:=(hd235 _ h373.symm).symm
 subst h373
 refine wp_exit (j4 (j4 (o9 (tn (sn0 2 s rfl fun a s=>?_)))))
 obtain ⟨rv365,h364,u⟩:=bt u
 refine cV s d (a2P h364 d.bdom) (d9 call124 rfl) rfl fun a w s d=>?_
 refine rz0 1 s rfl fun a s=>?_
 obtain rfl:=oi u
 exact q1 s rfl (d.ret rfl)
theorem a4N {w0 S0 x1 r} (u:cmp_isNaN_string x1=some r) (hS:Dm S0 w0):Ck Tryz.prog 148 #[.string x1] w0 S0 [] l7 r:=by
 refine en 6 func148 rfl hS rfl rfl rfl fun a s d=>?_
 refine sz0 1 s rfl fun a s=>?_
 refine sn0 2 s rfl fun a s=>?_
 refine sv s (y_neqS rfl rfl) rfl fun a s=>?_
 refine rz0 1 s rfl fun a s=>?_
 obtain rfl:=oi u
 exact q1 s rfl (d.ret rfl)
theorem a0d {w0 S0 x1 y2 r} (u:Q4 x1 y2=some r) (hS:Dm S0 w0):Ck Tryz.prog 128 #[.string x1,.string y2] w0 S0 [] J7 r:=by
 refine en 20 func128 rfl hS rfl rfl rfl fun a s d=>?_
 refine sz0 1 s rfl fun a s=>?_
 refine sn0 1 s rfl fun a s=>?_
 obtain ⟨rv4,h3,u⟩:=bt u
 refine cV s d (a4N h3 d.bdom) (d9 call148 rfl) rfl fun a w s d=>?_
 refine rz0 1 s rfl fun a s=>?_
 refine sn0 1 s rfl fun a s=>?_
 obtain ⟨rv12,h11,u⟩:=bt u
 refine cV s d (a4N h11 d.bdom) (d9 call148 rfl) rfl fun a w s d=>?_
 refine rz0 1 s rfl fun a s=>?_
 refine wp_seq (sz0 1 s rfl fun a s=>?_)
 refine cd s u rfl (fun u=>?_) fun u=>?_
 ·refine wp_seq (sz0 1 s rfl fun a s=>?_)
  refine cd s u rfl (fun u=>?_) fun u=>?_
  ·refine sz0 1 s rfl fun a s=>?_
   obtain rfl:=oi u
   exact wp_ret (j3 (j3 (rt s rfl (d.ret rfl))))
  refine sk (sz0 1 s rfl fun a s=>?_)
  obtain rfl:=oi u
  exact wp_ret (j3 (rt s rfl (d.ret rfl)))
 refine sk (wp_seq (sz0 1 s rfl fun a s=>?_))
 refine cd s u rfl (fun u=>?_) fun u=>?_
 ·refine sz0 1 s rfl fun a s=>?_
  obtain rfl:=oi u
  exact wp_ret (j3 (rt s rfl (d.ret rfl)))
 refine sk (wp_seq (sn0 2 s rfl fun a s=>?_))
 refine sv s (y_lssS rfl rfl) rfl fun a s=>?_
 refine nl (cd s u rfl (fun u=>?_) fun u=>?_)
 ·refine sz0 1 s rfl fun a s=>?_
  obtain rfl:=oi u
  exact wp_ret (j3 (rt s rfl (d.ret rfl)))
 refine sk (wp_seq (sn0 2 s rfl fun a s=>?_))
 refine sv s (y_gtrS rfl rfl) rfl fun a s=>?_
 refine nl (cd s u rfl (fun u=>?_) fun u=>?_)
 ·refine sz0 1 s rfl fun a s=>?_
  obtain rfl:=oi u
  exact wp_ret (j3 (rt s rfl (d.ret rfl)))
 refine sk (sz0 1 s rfl fun a s=>?_)
 obtain rfl:=oi u
 exact q1 s rfl (d.ret rfl)
theorem b1c {w0 S0 p2 k3 vals1 r} (u:a6d vals1=some r) (hS:Dm S0 w0) (h4:(Sq p2 k3 vals1).p S0 w0):Ck Tryz.prog 127 #[sl p2 k3 vals1] w0 S0 [] J7 r:=by
 refine en 18 func127 rfl hS rfl rfl rfl fun a s d=>?_
 have d:=d.addE h4
 refine sz0 1 s rfl fun a s=>?_
 refine sz0 1 s rfl fun a s=>?_
 refine wp_seq (sz0 3 s rfl fun a s=>?_)
 refine wp_block (u7 (fun sv55 a w=>∃ Sv87,Sl 18 [(3,iv 0),(6,sl p2 k3 vals1),(7,iv (vals1.length:Int)),(8,iv sv55)] a∧Wd ⟨w0,S0,[]⟩ Sv87 [] [Sq p2 k3 vals1] w) 0 u ⟨S0,wj s d [] [0]⟩ ?_)
 repeat clear u
 rintro sv55 a w tv104 ⟨Sv87,s,d⟩ u hd103
 refine sz0 1 s rfl fun a s=>?_
 refine wp_seq (cd s u rfl (fun u=>?_) fun u=>?_)
 ·refine sk (wp_seq (wp_block (sr ?_)))
  obtain ⟨x125,h123,u⟩:=bt u
  obtain ⟨b131,o132,q129,c130,h133,h126,h127,h128,h124⟩:=d.elemV 0 rfl h123
  have hsv134:=s
  have hwv135:=d
  subst h133
  have s:=hsv134
  have d:=hwv135
  obtain ⟨_,rfl,rfl⟩:=h124
  have d:=d.addE h128
  refine sv s (o8 runUnderlying22 sizeOf3 rfl rfl h126.1 h126.2 h127) rfl fun a s=>?_
  refine sv s (F5 (j:=0) (d.ceAt 0 rfl) rfl isAgg3 rfl) rfl fun a s=>?_
  refine rz0 1 s rfl fun a s=>?_
  refine sz0 3 s rfl fun a s=>?_
  refine cd s u rfl (fun u=>?_) fun u=>?_
  ·refine sz0 2 s rfl fun a s=>?_
   obtain rfl:=oi u
   have h138:=hd103 _ rfl
   subst h138
   exact wp_ret (r9 (j3 (j3 (r9 (j3 (rt s rfl (d.ret rfl)))))))
  refine wp_skip (l9 (tn (wp_region_lit (rz0 2 s rfl fun a s=>?_))))
  exact ⟨_,io u,Sv87,wj s d [] [1]⟩
 obtain ⟨rv139,u,h140⟩:=Y7 u
 have h140:=(hd103 _ h140.symm).symm
 subst h140
 refine wp_exit (j4 (j4 (o9 (tn (sz0 2 s rfl fun a s=>?_)))))
 obtain rfl:=oi u
 exact q1 s rfl (d.ret rfl)
theorem a3S {w0 S0 a1 b2 r} (u:V4 a1 b2=some r) (hS:Dm S0 w0):Ck Tryz.prog 92 #[V32 a1,V32 b2] w0 S0 [] J7 r:=by
 refine en 27 func92 rfl hS rfl rfl rfl fun a s d=>?_
 refine sr (wb (C32 a1) s d rfl fun b3 a w s d=>?_)
 refine wb (C32 b2) s d rfl fun b4 a w s d=>?_
 refine rz0 1 s rfl fun a s=>?_
 refine wp_seq ?_
 obtain ⟨rv6,h5,u⟩:=bt u
 obtain ⟨rv8,h7,u⟩:=bt u
 obtain ⟨rv10,h9,u⟩:=bt u
 obtain ⟨rv12,h11,u⟩:=bt u
 obtain ⟨rv16,h15,u⟩:=bt u
 refine y9 (fun a w=>∃ Sv17,Sl 27 [(4,iv rv16)] a∧Wd ⟨w0,S0,[]⟩ Sv17 [] [] w) ?_ ?_
 ·refine h_c [0,1] [] d rfl rfl (by kernel_rfl) rfl fun hC d=>?_
  refine gn 16 [0,1,2,3,5,6,7,8,10,11,12,13,15,16,17,18] [1,0,1,0,1,0,1,0] s hC rfl rfl rfl fun a s=>?_
  refine ho 4 rfl ?_
  refine cV s d (a0d h5 d.bdom) (d9 call128 rfl) rfl fun a w s d=>?_
  refine h_n [0,1] [] d rfl rfl fun hC=>?_
  refine ho 9 rfl ?_
  refine cV s d (a0d h7 d.bdom) (d9 call128 rfl) rfl fun a w s d=>?_
  refine h_n [0,1] [] d rfl rfl fun hC=>?_
  refine ho 14 rfl ?_
  refine cV s d (a0d h9 d.bdom) (d9 call128 rfl) rfl fun a w s d=>?_
  refine h_n [0,1] [] d rfl rfl fun hC=>?_
  refine ho 19 rfl ?_
  refine cV s d (a0d h11 d.bdom) (d9 call128 rfl) rfl fun a w s d=>?_
  refine h_n [0,1] [] d rfl rfl fun hC=>?_
  refine ho 20 rfl ?_
  refine y7 (α:=Int) (vs:=[iv rv6,iv rv8,iv rv10,iv rv12]) (cs:=[iv rv6,iv rv8,iv rv10,iv rv12]) (xs:=([rv6,rv8,rv10,rv12]:List Int)) s d a5w rfl rfl rfl rfl rfl rfl ⟨⟨_,rfl,rfl⟩,⟨⟨_,rfl,rfl⟩,⟨⟨_,rfl,rfl⟩,⟨⟨_,rfl,rfl⟩,rfl⟩⟩⟩⟩ rfl trivial rfl fun b14 a w s d=>?_
  refine h_n [1,2] [] d rfl rfl fun hC=>?_
  refine h_d [1,2,0] [] [0,1] [] d rfl rfl rfl rfl fun hC=>?_
  refine ho 21 rfl ?_
  refine cV s d (b1c h15 d.bdom (d.bRow 0 rfl 0 rfl)) (d9 call127 rfl) rfl fun a w s d=>?_
  refine h_n [1,2,0] [] d rfl rfl fun hC=>?_
  refine gv s 22 rfl rfl hC (fun w hC=>M7 rfl) fun a s=>?_
  refine x8 (by kernel_rfl) ?_
  exact ⟨S0,wj s d [] []⟩
 rintro a w ⟨Sv17,s,d⟩
 refine tn ?_
 obtain rfl:=oi u
 exact q1 s rfl (d.ret rfl)
theorem a1i {w0 S0 p2 k3 inv1 r} (u:V8 inv1=some r) (hS:Dm S0 w0) (h4:(Sq p2 k3 inv1.Channels).p S0 w0):Ck Tryz.prog 55 #[.agg #[sl p2 k3 inv1.Channels]] w0 S0 [] l7 r:=by
 refine en 45 func55 rfl hS rfl rfl rfl fun a s d=>?_
 have d:=d.addE h4
 refine sr (wb [sl p2 k3 inv1.Channels] s d rfl fun b5 a w s d=>?_)
 refine rz0 1 s rfl fun a s=>?_
 refine wp_seq (sz 4 [0] s d rfl rfl fun a s=>?_)
 refine wp_block (u7 (fun sv137 a w=>∃ Sv223,Sl 45 [(1,pt b5),(6,sl p2 k3 inv1.Channels),(7,iv (inv1.Channels.length:Int)),(8,iv sv137)] a∧Wd ⟨w0,S0,[]⟩ Sv223 [.box b5 [sl p2 k3 inv1.Channels] 29] [Sq p2 k3 inv1.Channels] w) 0 u ⟨S0,wj s d [0] [0]⟩ ?_)
 repeat clear u
 rintro sv137 a w tv267 ⟨Sv223,s,d⟩ u hd266
 refine sz0 1 s rfl fun a s=>?_
 refine wp_seq (cd s u rfl (fun u=>?_) fun u=>?_)
 ·refine sk (wp_seq (wp_block (sn0 1 s rfl fun a s=>?_)))
  obtain ⟨x315,h313,u⟩:=bt u
  obtain ⟨b321,o322,q319,c320,h323,h316,h317,h318,h314⟩:=d.elemV 0 rfl h313
  have hsv324:=s
  have hwv325:=d
  subst h323
  have s:=hsv324
  have d:=hwv325
  obtain ⟨_,_,_,_,_,rfl,rfl,rfl,rfl,rfl,⟨p326,n327,k328,rfl,h329⟩⟩:=h314
  obtain rfl:=h329.1
  have d:=(d.addE (e:=SlA p326 _ k328 x315.Epochs) h329).addE h318
  refine sv s (o8 runUnderlying27 sizeOf73 rfl rfl h316.1 h316.2 h317) rfl fun a s=>?_
  refine sv s (D9 (j:=0) (d.ceAt 0 rfl) rfl isAgg73 sizeOf73 rfl rfl) rfl fun a s=>?_
  refine wa Z2 s d zeroValue73 fun b330 a w s d=>?_
  refine av s rfl rfl fun a s=>?_
  refine ws (C73 x315 p326 k328) s d 0 rfl rfl rfl sizeOf73 fun a w s d=>?_
  refine nl (wp_seq ?_)
  obtain ⟨rv332,h331,u⟩:=bt u
  obtain ⟨c335,hc335,u⟩:=bt u
  obtain ⟨c351,hc351,u⟩:=bt u
  refine y9 (fun a w=>∃ Sv352,Sl 45 [(1,pt b5),(6,sl (some ⟨b321,o322,none⟩) k3 inv1.Channels),(7,iv (inv1.Channels.length:Int)),(8,iv sv137),(39,.bool c351)] a∧Wd ⟨w0,S0,[]⟩ Sv352 [.box b5 [sl (some ⟨b321,o322,none⟩) k3 inv1.Channels] 29] [Sq (some ⟨b321,o322,none⟩) k3 inv1.Channels] w) ?_ ?_
  ·rcases Bool.eq_false_or_eq_true (!rv332) with h353 | h353
   ·have h354:=D5 hc335 h353
    have h355:c335=true:=(Option.some.inj h354).symm
    have h356:=D5 hc351 h355
    refine h_c [0,1] [0] d rfl rfl (by kernel_rfl) rfl fun hC d=>?_
    refine gn 2 [0,1] [0] s hC rfl rfl rfl fun a s=>?_
    refine ho 2 rfl ?_
    refine cV s d (a1H h331 d.bdom) (d9 call85 rfl) rfl fun a w s d=>?_
    refine h_n [0,1] [0] d rfl rfl fun hC=>?_
    refine gn 2 [3,4] [] s hC rfl rfl rfl fun a s=>?_
    have s:=s.bT 17 rfl h353
    refine gn 4 [5,6,7,8] [] s hC rfl rfl rfl fun a s=>?_
    refine gT s 9 rfl rfl hC rfl rfl h354 fun a s=>?_
    refine gm s 10 rfl rfl rfl hC fun a s=>?_
    have s:=s.bT 23 rfl h355
    refine gn 15 [11,12,13,14,15,16,17,18,19,20,21,22,23,24,25] [] s hC rfl rfl rfl fun a s=>?_
    refine gT s 26 rfl rfl hC rfl rfl h356 fun a s=>?_
    refine x8 (by kernel_rfl) ?_
    exact ⟨Sv223,wj s d [1] [2]⟩
   have h363:=D6 hc335 h353
   obtain ⟨rv365,h364,h363⟩:=O6 h363
   rcases Bool.eq_false_or_eq_true c335 with h366 | h366
   ·have h367:=D5 hc351 h366
    refine h_c [0,1] [0] d rfl rfl (by kernel_rfl) rfl fun hC d=>?_
    refine gn 2 [0,1] [0] s hC rfl rfl rfl fun a s=>?_
    refine ho 2 rfl ?_
    refine cV s d (a1H h331 d.bdom) (d9 call85 rfl) rfl fun a w s d=>?_
    refine h_n [0,1] [0] d rfl rfl fun hC=>?_
    refine gn 2 [3,4] [] s hC rfl rfl rfl fun a s=>?_
    have s:=s.bF 17 rfl h353
    refine gn 2 [5,6] [0] s hC rfl rfl rfl fun a s=>?_
    refine ho 7 rfl ?_
    refine q9 s (a2E h364 d.bdom (d.bE 1 rfl)) (d9 call102 rfl) ⟨_,rfl,rfl⟩ rfl rfl ?_
    rintro v377 Sv374 w a h375 rfl s
    have d:=d.callB h375
    refine h_n [0,1] [0] d rfl rfl fun hC=>?_
    refine gt s 8 rfl ⟨_,rfl,rfl⟩ rfl hC (fun w hC=>a9Q rfl) fun a s=>?_
    refine gF s 9 rfl rfl hC rfl rfl h363 fun a s=>?_
    refine gm s 10 rfl rfl rfl hC fun a s=>?_
    have s:=s.bT 23 rfl h366
    refine gn 15 [11,12,13,14,15,16,17,18,19,20,21,22,23,24,25] [] s hC rfl rfl rfl fun a s=>?_
    refine gT s 26 rfl rfl hC rfl rfl h367 fun a s=>?_
    refine x8 (by kernel_rfl) ?_
    exact ⟨Sv223,wj s d [1] [2]⟩
   have h380:=D6 hc351 h366
   obtain ⟨c395,hc395,h380⟩:=O6 h380
   rcases Bool.eq_false_or_eq_true (decide (0<sv137)) with h396 | h396
   ·have h397:=D5 hc395 h396
    obtain ⟨x400,h398,h397⟩:=O6 h397
    obtain ⟨q404,c405,h401,h402,h403,h399⟩:=d.elemK 2 rfl h398
    obtain ⟨_,_,_,_,_,rfl,rfl,rfl,rfl,rfl,⟨p406,n407,k408,rfl,h409⟩⟩:=h399
    obtain rfl:=h409.1
    have d:=(d.addE (e:=SlA p406 _ k408 x400.Epochs) h409).addE h403
    obtain ⟨rv411,h410,h397⟩:=O6 h397
    refine h_c [0,1] [0,2] d rfl rfl (by kernel_rfl) rfl fun hC d=>?_
    refine gn 2 [0,1] [0] s hC rfl rfl rfl fun a s=>?_
    refine ho 2 rfl ?_
    refine cV s d (a1H h331 d.bdom) (d9 call85 rfl) rfl fun a w s d=>?_
    refine h_n [0,1] [0,2] d rfl rfl fun hC=>?_
    refine gn 2 [3,4] [] s hC rfl rfl rfl fun a s=>?_
    have s:=s.bF 17 rfl h353
    refine gn 2 [5,6] [0] s hC rfl rfl rfl fun a s=>?_
    refine ho 7 rfl ?_
    refine q9 s (a2E h364 d.bdom (d.bE 3 rfl)) (d9 call102 rfl) ⟨_,rfl,rfl⟩ rfl rfl ?_
    rintro v421 Sv418 w a h419 rfl s
    have d:=d.callB h419
    refine h_n [0,1] [0,2] d rfl rfl fun hC=>?_
    refine gt s 8 rfl ⟨_,rfl,rfl⟩ rfl hC (fun w hC=>a9Q rfl) fun a s=>?_
    refine gF s 9 rfl rfl hC rfl rfl h363 fun a s=>?_
    refine gm s 10 rfl rfl rfl hC fun a s=>?_
    have s:=s.bF 23 rfl h366
    refine gn 3 [11,12,13] [] s hC rfl rfl rfl fun a s=>?_
    have s:=s.bT 26 rfl h396
    refine gn 4 [14,15,16,17] [1] s hC rfl rfl rfl fun a s=>?_
    refine gx s 18 rfl ⟨_,rfl,rfl⟩ rfl hC runUnderlying27 sizeOf73 rfl rfl h401 h402 fun a s=>?_
    refine gt s 19 rfl ⟨_,rfl,rfl⟩ rfl hC (fun w hC=>j5 (o':=q404+0) runUnderlying73 rfl sizeOf32 rfl rfl rfl) fun a s=>?_
    refine gt s 20 rfl ⟨_,rfl,rfl⟩ rfl hC (fun w hC=>D9 (j:=0) (hC.ceAt 0 rfl) rfl isAgg32 sizeOf32 rfl rfl) fun a s=>?_
    refine gn 2 [21,22] [0] s hC rfl rfl rfl fun a s=>?_
    refine ho 23 rfl ?_
    refine q9 s (a3S h410 d.bdom) (d9 call92 rfl) ⟨_,rfl,rfl⟩ rfl rfl ?_
    rintro v427 Sv424 w a h425 rfl s
    have d:=d.callB h425
    refine h_n [0,1] [0,2] d rfl rfl fun hC=>?_
    refine gt s 24 rfl ⟨_,rfl,rfl⟩ rfl hC (fun w hC=>a8a rfl rfl) fun a s=>?_
    refine gt s 25 rfl ⟨_,rfl,rfl⟩ rfl hC (fun w hC=>a5W (v:=.bool c395) rfl rfl (vbs h397)) fun a s=>?_
    refine gF s 26 rfl rfl hC rfl rfl h380 fun a s=>?_
    refine x8 (by kernel_rfl) ?_
    exact ⟨Sv223,wj s d [1] [4]⟩
   have h430:=D6 hc395 h396
   refine h_c [0,1] [0] d rfl rfl (by kernel_rfl) rfl fun hC d=>?_
   refine gn 2 [0,1] [0] s hC rfl rfl rfl fun a s=>?_
   refine ho 2 rfl ?_
   refine cV s d (a1H h331 d.bdom) (d9 call85 rfl) rfl fun a w s d=>?_
   refine h_n [0,1] [0] d rfl rfl fun hC=>?_
   refine gn 2 [3,4] [] s hC rfl rfl rfl fun a s=>?_
   have s:=s.bF 17 rfl h353
   refine gn 2 [5,6] [0] s hC rfl rfl rfl fun a s=>?_
   refine ho 7 rfl ?_
   refine q9 s (a2E h364 d.bdom (d.bE 1 rfl)) (d9 call102 rfl) ⟨_,rfl,rfl⟩ rfl rfl ?_
   rintro v440 Sv437 w a h438 rfl s
   have d:=d.callB h438
   refine h_n [0,1] [0] d rfl rfl fun hC=>?_
   refine gt s 8 rfl ⟨_,rfl,rfl⟩ rfl hC (fun w hC=>a9Q rfl) fun a s=>?_
   refine gF s 9 rfl rfl hC rfl rfl h363 fun a s=>?_
   refine gm s 10 rfl rfl rfl hC fun a s=>?_
   have s:=s.bF 23 rfl h366
   refine gn 3 [11,12,13] [] s hC rfl rfl rfl fun a s=>?_
   have s:=s.bF 26 rfl h396
   refine gn 11 [14,15,16,17,18,19,20,21,22,23,24] [] s hC rfl rfl rfl fun a s=>?_
   refine gt s 25 rfl ⟨_,rfl,rfl⟩ rfl hC (fun w hC=>a5V (v:=.bool c395) rfl rfl (vbs h430)) fun a s=>?_
   refine gF s 26 rfl rfl hC rfl rfl h380 fun a s=>?_
   refine x8 (by kernel_rfl) ?_
   exact ⟨Sv223,wj s d [1] [2]⟩
  rintro a w ⟨Sv352,s,d⟩
  refine tn (cd s u rfl (fun u=>?_) fun u=>?_)
  ·refine sz0 1 s rfl fun a s=>?_
   obtain rfl:=oi u
   have h445:=hd266 _ rfl
   subst h445
   exact wp_ret (r9 (j3 (j3 (r9 (j3 (rt s rfl (d.ret rfl)))))))
  refine wp_skip (l9 (tn (wp_region_lit (rz0 2 s rfl fun a s=>?_))))
  exact ⟨_,io u,Sv352,wj s d [0] [0]⟩
 obtain ⟨rv446,u,h447⟩:=Y7 u
 have h447:=(hd266 _ h447.symm).symm
 subst h447
 refine wp_exit (j4 (j4 (o9 (tn (sz 5 [0] s d rfl rfl fun a s=>?_)))))
 obtain rfl:=oi u
 exact q1 s rfl (d.ret rfl)
theorem S9 {w0 S0 p2 k3 p6 k7 g10 f11 cp12 s1_1 s2_5} {eq9:Stage→Stage→Option Bool} {r} (u:G7 s1_1 s2_5 eq9=some r) (hS:Dm S0 w0) (h4:(Sq p2 k3 s1_1).p S0 w0) (h8:(Sq p6 k7 s2_5).p S0 w0) (h13:(a6G Tryz.prog g10 f11 cp12 eq9).p S0 w0):Ck Tryz.prog 168 #[sl p2 k3 s1_1,sl p6 k7 s2_5,.func (.func g10) f11.toArray cp12.toArray] w0 S0 [] l7 r:=by
 refine en 32 func168 rfl hS rfl rfl rfl fun a s d=>?_
 have d:=((d.addE h4).addE h8).addE h13
 refine sz0 1 s rfl fun a s=>?_
 refine wp_seq (sz0 5 s rfl fun a s=>?_)
 refine cd s u rfl (fun u=>?_) fun u=>?_
 ·refine sz0 1 s rfl fun a s=>?_
  obtain rfl:=oi u
  exact wp_ret (j3 (rt s rfl (d.ret rfl)))
 refine sk (wp_seq (sz0 3 s rfl fun a s=>?_))
 refine wp_block (u7 (fun sv153 a w=>∃ Sv243,Sl 32 [(1,sl p6 k7 s2_5),(2,.func (.func g10) f11.toArray cp12.toArray),(15,sl p2 k3 s1_1),(16,iv (s1_1.length:Int)),(17,iv sv153)] a∧Wd ⟨w0,S0,[]⟩ Sv243 [] [Sq p6 k7 s2_5,a6G Tryz.prog g10 f11 cp12 eq9,Sq p2 k3 s1_1] w) 0 u ⟨S0,wj s d [] [1,0,2]⟩ ?_)
 repeat clear u
 rintro sv153 a w tv289 ⟨Sv243,s,d⟩ u hd288
 refine sz0 1 s rfl fun a s=>?_
 refine wp_seq (cd s u rfl (fun u=>?_) fun u=>?_)
 ·refine sk (wp_seq (wp_block (sn0 1 s rfl fun a s=>?_)))
  obtain ⟨x339,h337,u⟩:=bt u
  obtain ⟨b345,o346,q343,c344,h347,h340,h341,h342,h338⟩:=d.elemV 2 rfl h337
  have hsv348:=s
  have hwv349:=d
  subst h347
  have s:=hsv348
  have d:=hwv349
  obtain ⟨_,_,_,_,_,_,_,_,_,_,rfl,rfl,rfl,rfl,rfl,rfl,rfl,rfl,⟨p350,n351,k352,rfl,h353⟩,rfl,rfl⟩:=h338
  obtain rfl:=h353.1
  have d:=(d.addE (e:=SlA p350 _ k352 x339.Taps) h353).addE h342
  refine sv s (o8 runUnderlying37 sizeOf138 rfl rfl h340.1 h340.2 h341) rfl fun a s=>?_
  refine sv s (D9 (j:=0) (d.ceAt 0 rfl) rfl isAgg138 sizeOf138 rfl rfl) rfl fun a s=>?_
  refine wa Z0 s d zeroValue138 fun b354 a w s d=>?_
  refine av s rfl rfl fun a s=>?_
  refine ws (a1y x339 p350 k352) s d 0 rfl rfl rfl sizeOf138 fun a w s d=>?_
  refine nl (sn0 2 s rfl fun a s=>?_)
  obtain ⟨x357,h355,u⟩:=bt u
  obtain ⟨b363,o364,q361,c362,h365,h358,h359,h360,h356⟩:=d.elemV 2 rfl h355
  have hsv366:=s
  have hwv367:=d
  subst h365
  have s:=hsv366
  have d:=hwv367
  obtain ⟨_,_,_,_,_,_,_,_,_,_,rfl,rfl,rfl,rfl,rfl,rfl,rfl,rfl,⟨p368,n369,k370,rfl,h371⟩,rfl,rfl⟩:=h356
  obtain rfl:=h371.1
  have d:=(d.addE (e:=SlA p368 _ k370 x357.Taps) h371).addE h360
  refine sv s (o8 runUnderlying37 sizeOf138 rfl rfl h358.1 h358.2 h359) rfl fun a s=>?_
  refine sv s (D9 (j:=0) (d.ceAt 0 rfl) rfl isAgg138 sizeOf138 rfl rfl) rfl fun a s=>?_
  refine wa Z0 s d zeroValue138 fun b372 a w s d=>?_
  refine ws (a1y x357 p368 k370) s d 0 rfl rfl rfl sizeOf138 fun a w s d=>?_
  refine nl (sn 3 [1,0] s d rfl rfl fun a s=>?_)
  obtain ⟨rv374,h373,u⟩:=bt u
  refine q9 s ((d.bE 5 rfl).2 a2a.rfl' d.bdom ⟨_,_,_,_,_,_,_,_,_,_,rfl,rfl,rfl,rfl,rfl,rfl,rfl,rfl,⟨_,_,_,rfl,d.bE 3 rfl⟩,rfl,rfl⟩ ⟨_,_,_,_,_,_,_,_,_,_,rfl,rfl,rfl,rfl,rfl,rfl,rfl,rfl,⟨_,_,_,rfl,d.bE 1 rfl⟩,rfl,rfl⟩ h373) (a4z (d.bE 5 rfl).1 rfl rfl) trivial rfl rfl ?_
  rintro v378 Sv375 w a h376 rfl s
  have d:=d.callB h376
  refine rz0 1 s rfl fun a s=>?_
  refine cd s u rfl (fun u=>?_) fun u=>?_
  ·refine sz0 1 s rfl fun a s=>?_
   obtain rfl:=oi u
   have h381:=hd288 _ rfl
   subst h381
   exact wp_ret (r9 (j3 (j3 (r9 (j3 (rt s rfl (d.ret rfl)))))))
  refine wp_skip (l9 (tn (wp_region_lit (rz0 2 s rfl fun a s=>?_))))
  exact ⟨_,io u,Sv243,wj s d [] [4,5,6]⟩
 obtain ⟨rv382,u,h383⟩:=Y7 u
 have h383:=(hd288 _ h383.symm).symm
 subst h383
 refine wp_exit (j4 (j4 (o9 (tn (sz0 1 s rfl fun a s=>?_)))))
 obtain rfl:=oi u
 exact q1 s rfl (d.ret rfl)
theorem a5H {w0 S0 p2 k3 p6 k7 s1_1 s2_5 r} (u:a0i s1_1 s2_5=some r) (hS:Dm S0 w0) (h4:(Sq p2 k3 s1_1).p S0 w0) (h8:(Sq p6 k7 s2_5).p S0 w0):Ck Tryz.prog 170 #[sl p2 k3 s1_1,sl p6 k7 s2_5] w0 S0 [] l7 r:=by
 refine en 26 func170 rfl hS rfl rfl rfl fun a s d=>?_
 have d:=(d.addE h4).addE h8
 refine sz0 1 s rfl fun a s=>?_
 refine wp_seq (sz0 5 s rfl fun a s=>?_)
 refine cd s u rfl (fun u=>?_) fun u=>?_
 ·refine sz0 1 s rfl fun a s=>?_
  obtain rfl:=oi u
  exact wp_ret (j3 (rt s rfl (d.ret rfl)))
 refine sk (wp_seq (sz0 3 s rfl fun a s=>?_))
 refine wp_block (u7 (fun sv103 a w=>∃ Sv163,Sl 26 [(0,sl p2 k3 s1_1),(1,sl p6 k7 s2_5),(12,iv (s1_1.length:Int)),(13,iv sv103)] a∧Wd ⟨w0,S0,[]⟩ Sv163 [] [Sq p2 k3 s1_1,Sq p6 k7 s2_5] w) 0 u ⟨S0,wj s d [] [1,0]⟩ ?_)
 repeat clear u
 rintro sv103 a w tv194 ⟨Sv163,s,d⟩ u hd193
 refine sz0 1 s rfl fun a s=>?_
 refine wp_seq (cd s u rfl (fun u=>?_) fun u=>?_)
 ·refine sk (wp_seq (wp_block (sz0 2 s rfl fun a s=>?_)))
  refine wp_seq ?_
  obtain ⟨x229,h227,u⟩:=bt u
  obtain ⟨b235,o236,q233,c234,h237,h230,h231,h232,h228⟩:=d.elemV 0 rfl h227
  have hsv238:=s
  have hwv239:=d
  subst h237
  have s:=hsv238
  have d:=hwv239
  obtain ⟨_,rfl,rfl⟩:=h228
  have d:=d.addE h232
  obtain ⟨x242,h240,u⟩:=bt u
  obtain ⟨b248,o249,q246,c247,h250,h243,h244,h245,h241⟩:=d.elemV 2 rfl h240
  have hsv251:=s
  have hwv252:=d
  subst h250
  have s:=hsv251
  have d:=hwv252
  obtain ⟨_,rfl,rfl⟩:=h241
  have d:=d.addE h245
  refine y9 (fun a w=>∃ Sv253,Sl 26 [(0,sl (some ⟨b235,o236,none⟩) k3 s1_1),(1,sl (some ⟨b248,o249,none⟩) k7 s2_5),(12,iv (s1_1.length:Int)),(13,iv sv103),(24,.bool (x229 != x242))] a∧Wd ⟨w0,S0,[]⟩ Sv253 [] [Sq (some ⟨b235,o236,none⟩) k3 s1_1,Sq (some ⟨b248,o249,none⟩) k7 s2_5] w) ?_ ?_
  ·refine h_c [] [0,1] d rfl rfl (by kernel_rfl) rfl fun hC d=>?_
   refine gn 2 [0,1] [] s hC rfl rfl rfl fun a s=>?_
   refine gx s 2 rfl trivial rfl hC runUnderlying22 sizeOf3 rfl rfl h230 h231 fun a s=>?_
   refine gv s 3 rfl rfl hC (fun w hC=>F5 (j:=0) (hC.ceAt 1 rfl) rfl isAgg3 rfl) fun a s=>?_
   refine gn 2 [4,5] [] s hC rfl rfl rfl fun a s=>?_
   refine gx s 6 rfl trivial rfl hC runUnderlying22 sizeOf3 rfl rfl h243 h244 fun a s=>?_
   refine gv s 7 rfl rfl hC (fun w hC=>F5 (j:=0) (hC.ceAt 0 rfl) rfl isAgg3 rfl) fun a s=>?_
   refine gv s 8 rfl rfl hC (fun w hC=>y_neq rfl rfl) fun a s=>?_
   refine x8 (by kernel_rfl) ?_
   exact ⟨Sv163,wj s d [] [2,3]⟩
  rintro a w ⟨Sv253,s,d⟩
  refine tn (cd s u rfl (fun u=>?_) fun u=>?_)
  ·refine sz0 1 s rfl fun a s=>?_
   obtain rfl:=oi u
   have h256:=hd193 _ rfl
   subst h256
   exact wp_ret (r9 (j3 (j3 (r9 (j3 (rt s rfl (d.ret rfl)))))))
  refine wp_skip (l9 (tn (wp_region_lit (rz0 2 s rfl fun a s=>?_))))
  exact ⟨_,io u,Sv253,wj s d [] [0,1]⟩
 obtain ⟨rv257,u,h258⟩:=Y7 u
 have h258:=(hd193 _ h258.symm).symm
 subst h258
 refine wp_exit (j4 (j4 (o9 (tn (sz0 1 s rfl fun a s=>?_)))))
 obtain rfl:=oi u
 exact q1 s rfl (d.ret rfl)
theorem a7h {w0 S0 p2 k3 p6 k7 x1 y5 r} (u:V6 x1 y5=some r) (hS:Dm S0 w0) (h4:(Sq p2 k3 x1.Taps).p S0 w0) (h8:(Sq p6 k7 y5.Taps).p S0 w0):Ck Tryz.prog 169 #[V138 x1 p2 k3,V138 y5 p6 k7] w0 S0 [] l7 r:=by
 refine en 45 func169 rfl hS rfl rfl rfl fun a s d=>?_
 have d:=(d.addE h4).addE h8
 refine sr (wb (a1y x1 p2 k3) s d rfl fun b9 a w s d=>?_)
 refine wb (a1y y5 p6 k7) s d rfl fun b10 a w s d=>?_
 refine rz0 1 s rfl fun a s=>?_
 refine sn 6 [1,0] s d rfl rfl fun a s=>?_
 refine o7 6 (fun a w1=>w=w1∧Sl 45 [(2,pt b9),(3,pt b10),(16,.bool ((x1.Kind == y5.Kind) && ((x1.Num.e0 == y5.Num.e0) && ((x1.Num.e1 == y5.Num.e1) && ((x1.Num.e2 == y5.Num.e2) && true)))))] a) ?_ ?_
 ·rcases Bool.eq_false_or_eq_true (x1.Kind == y5.Kind) with h11 | h11
  ·have s:=s.bT 10 rfl h11
   refine rn 4 [1,0] s d rfl rfl fun a s=>?_
   refine y8 s (a1Q (by kernel_rfl) rfl rfl (a1J runUnderlying136 sizeOf3 (EqA.cons1 isAgg3 rfl rfl (F4 runUnderlying3) (EqA.cons1 isAgg3 rfl rfl (F4 runUnderlying3) (EqA.cons1 isAgg3 rfl rfl (F4 runUnderlying3) EqA.nil))))) ⟨_,rfl,rfl⟩ rfl rfl fun a s=>?_
   refine rz0 1 s rfl fun a s=>?_
   exact ⟨rfl,(s.fix 16 (.bool ((x1.Kind == y5.Kind) && ((x1.Num.e0 == y5.Num.e0) && ((x1.Num.e1 == y5.Num.e1) && ((x1.Num.e2 == y5.Num.e2) && true))))) rfl (a3i h11)).weaken _ ⟨rfl,rfl,rfl,trivial⟩⟩
  have s:=s.bF 10 rfl h11
  refine rz0 6 s rfl fun a s=>?_
  exact ⟨rfl,(s.fix 16 (.bool ((x1.Kind == y5.Kind) && ((x1.Num.e0 == y5.Num.e0) && ((x1.Num.e1 == y5.Num.e1) && ((x1.Num.e2 == y5.Num.e2) && true))))) rfl (a3h h11)).weaken _ ⟨rfl,rfl,rfl,trivial⟩⟩
 rintro a w1 ⟨h35,s⟩
 subst h35
 refine mv s rfl rfl fun a s=>?_
 refine o7 6 (fun a w1=>w=w1∧Sl 45 [(2,pt b9),(3,pt b10),(23,.bool (((x1.Kind == y5.Kind) && ((x1.Num.e0 == y5.Num.e0) && ((x1.Num.e1 == y5.Num.e1) && ((x1.Num.e2 == y5.Num.e2) && true)))) && ((x1.Den.e0 == y5.Den.e0) && ((x1.Den.e1 == y5.Den.e1) && ((x1.Den.e2 == y5.Den.e2) && true)))))] a) ?_ ?_
 ·rcases Bool.eq_false_or_eq_true ((x1.Kind == y5.Kind) && ((x1.Num.e0 == y5.Num.e0) && ((x1.Num.e1 == y5.Num.e1) && ((x1.Num.e2 == y5.Num.e2) && true)))) with h12 | h12
  ·have s:=s.bT 17 rfl h12
   refine rn 4 [1,0] s d rfl rfl fun a s=>?_
   refine y8 s (a1Q (by kernel_rfl) rfl rfl (a1J runUnderlying136 sizeOf3 (EqA.cons1 isAgg3 rfl rfl (F4 runUnderlying3) (EqA.cons1 isAgg3 rfl rfl (F4 runUnderlying3) (EqA.cons1 isAgg3 rfl rfl (F4 runUnderlying3) EqA.nil))))) ⟨_,rfl,rfl⟩ rfl rfl fun a s=>?_
   refine rz0 1 s rfl fun a s=>?_
   exact ⟨rfl,(s.fix 23 (.bool (((x1.Kind == y5.Kind) && ((x1.Num.e0 == y5.Num.e0) && ((x1.Num.e1 == y5.Num.e1) && ((x1.Num.e2 == y5.Num.e2) && true)))) && ((x1.Den.e0 == y5.Den.e0) && ((x1.Den.e1 == y5.Den.e1) && ((x1.Den.e2 == y5.Den.e2) && true))))) rfl (a3i h12)).weaken _ ⟨rfl,rfl,rfl,trivial⟩⟩
  have s:=s.bF 17 rfl h12
  refine rz0 6 s rfl fun a s=>?_
  exact ⟨rfl,(s.fix 23 (.bool (((x1.Kind == y5.Kind) && ((x1.Num.e0 == y5.Num.e0) && ((x1.Num.e1 == y5.Num.e1) && ((x1.Num.e2 == y5.Num.e2) && true)))) && ((x1.Den.e0 == y5.Den.e0) && ((x1.Den.e1 == y5.Den.e1) && ((x1.Den.e2 == y5.Den.e2) && true))))) rfl (a3h h12)).weaken _ ⟨rfl,rfl,rfl,trivial⟩⟩
 rintro a w1 ⟨h34,s⟩
 subst h34
 refine mv s rfl rfl fun a s=>?_
 obtain ⟨c22,hc22,u⟩:=bt u
 refine o7 6 (fun a w=>∃ Sv23,Sl 45 [(2,pt b9),(3,pt b10),(30,.bool c22)] a∧Wd ⟨w0,S0,[]⟩ Sv23 [.box b9 (a1y x1 p2 k3) 138,.box b10 (a1y y5 p6 k7) 138] [Sq p2 k3 x1.Taps,Sq p6 k7 y5.Taps] w) ?_ ?_
 ·rcases Bool.eq_false_or_eq_true (((x1.Kind == y5.Kind) && ((x1.Num.e0 == y5.Num.e0) && ((x1.Num.e1 == y5.Num.e1) && ((x1.Num.e2 == y5.Num.e2) && true)))) && ((x1.Den.e0 == y5.Den.e0) && ((x1.Den.e1 == y5.Den.e1) && ((x1.Den.e2 == y5.Den.e2) && true)))) with h21 | h21
  ·have s:=s.bT 24 rfl h21
   have u:=D5 hc22 h21
   refine rn 4 [1,0] s d rfl rfl fun a s=>?_
   obtain ⟨rv25,h24,u⟩:=bt u
   refine q9 s (a5H h24 d.bdom (d.bE 1 rfl) (d.bE 0 rfl)) (d9 call170 rfl) ⟨_,rfl,rfl⟩ rfl rfl ?_
   rintro v29 Sv26 w a h27 rfl s
   have d:=d.callB h27
   refine sv s (G8 rfl rfl) rfl fun a s=>?_
   refine wpList_nil ?_
   obtain rfl:=oi u
   exact tn ⟨S0,wj s d [1,0] [1,0]⟩
  have s:=s.bF 24 rfl h21
  have u:=D6 hc22 h21
  refine rn0 6 s rfl fun a s=>?_
  refine wpList_nil ?_
  obtain rfl:=oi u
  exact tn ⟨S0,wj s d [1,0] [1,0]⟩
 rintro a w ⟨Sv23,s,d⟩
 refine mv s rfl rfl fun a s=>?_
 refine rA 6 31 [0,1] s d rfl rfl rfl rfl rfl fun a s=>?_
 refine mv s rfl rfl fun a s=>?_
 refine rA 6 38 [0,1] s d rfl rfl rfl rfl rfl fun a s=>?_
 refine rz0 1 s rfl fun a s=>?_
 obtain rfl:=oi u
 exact q1 s rfl (d.ret rfl)
theorem a7g (S0:Nat→Prop) (w0:World):(a6G Tryz.prog 169 [] [] V6).p S0 w0:=by
  refine ⟨call169,?_⟩
  rintro S1 w1 hk hS c0 c1 x0 x1 r1 ⟨_,_,_,_,_,_,_,_,_,_,rfl,rfl,rfl,rfl,rfl,rfl,rfl,rfl,⟨_,_,_,rfl,e0⟩,rfl,rfl⟩ h1 hf
  obtain ⟨_,_,_,_,_,_,_,_,_,_,rfl,rfl,rfl,rfl,rfl,rfl,rfl,rfl,⟨_,_,_,rfl,e1⟩,rfl,rfl⟩:=h1
  obtain rfl:=e0.1
  obtain rfl:=e1.1
  exact a7h hf hS e0 e1
theorem a5P {w0 S0 p2 k3 p6 k7 a1 b5 r} (u:a2J a1 b5=some r) (hS:Dm S0 w0) (h4:(Sq p2 k3 a1.Stages).p S0 w0) (h8:(Sq p6 k7 b5.Stages).p S0 w0):Ck Tryz.prog 136 #[.agg #[sl p2 k3 a1.Stages],.agg #[sl p6 k7 b5.Stages]] w0 S0 [] l7 r:=by
 refine en 10 func136 rfl hS rfl rfl rfl fun a s d=>?_
 have d:=(d.addE h4).addE h8
 refine sr (wb [sl p2 k3 a1.Stages] s d rfl fun b9 a w s d=>?_)
 refine wb [sl p6 k7 b5.Stages] s d rfl fun b10 a w s d=>?_
 refine rz0 1 s rfl fun a s=>?_
 refine sn 4 [1,0] s d rfl rfl fun a s=>?_
 obtain ⟨rv12,h11,u⟩:=bt u
 refine cV s d (S9 h11 d.bdom (d.bE 1 rfl) (d.bE 0 rfl) (a7g _ _)) (d9 call168 rfl) rfl fun a w s d=>?_
 refine rz0 1 s rfl fun a s=>?_
 obtain rfl:=oi u
 exact q1 s rfl (d.ret rfl)
theorem a6i {w0 S0 p2 k3 p6 k7 a1 b5 r} (u:X5 a1 b5=some r) (hS:Dm S0 w0) (h4:(Sq p2 k3 a1.Response.Stages).p S0 w0) (h8:(Sq p6 k7 b5.Response.Stages).p S0 w0):Ck Tryz.prog 125 #[V41 a1 p2 k3,V41 b5 p6 k7] w0 S0 [] l7 r:=by
 refine en 38 func125 rfl hS rfl rfl rfl fun a s d=>?_
 have d:=(d.addE h4).addE h8
 refine sr (wb (C41 a1 p2 k3) s d rfl fun b9 a w s d=>?_)
 refine wb (C41 b5 p6 k7) s d rfl fun b10 a w s d=>?_
 refine rz0 1 s rfl fun a s=>?_
 refine sn 6 [1,0] s d rfl rfl fun a s=>?_
 refine rA 6 10 [1,0] s d rfl rfl rfl rfl rfl fun a s=>?_
 refine mv s rfl rfl fun a s=>?_
 refine o7 6 (fun a w1=>w=w1∧Sl 38 [(2,pt b9),(3,pt b10),(23,.bool (((a1.From == b5.From) && (a1.To == b5.To)) && ((a1.Rate.Num == b5.Rate.Num) && ((a1.Rate.Den == b5.Rate.Den) && true))))] a) ?_ ?_
 ·rcases Bool.eq_false_or_eq_true ((a1.From == b5.From) && (a1.To == b5.To)) with h12 | h12
  ·have s:=s.bT 17 rfl h12
   refine rn 4 [1,0] s d rfl rfl fun a s=>?_
   refine y8 s (a1Q (by kernel_rfl) rfl rfl (P6 runUnderlying34 (by kernel_rfl) (EqF.cons1 rfl isAgg3 rfl rfl (F4 runUnderlying3) (EqF.cons1 rfl isAgg3 rfl rfl (F4 runUnderlying3) EqF.nil)))) ⟨_,rfl,rfl⟩ rfl rfl fun a s=>?_
   refine rz0 1 s rfl fun a s=>?_
   exact ⟨rfl,(s.fix 23 (.bool (((a1.From == b5.From) && (a1.To == b5.To)) && ((a1.Rate.Num == b5.Rate.Num) && ((a1.Rate.Den == b5.Rate.Den) && true)))) rfl (a3i h12)).weaken _ ⟨rfl,rfl,rfl,trivial⟩⟩
  have s:=s.bF 17 rfl h12
  refine rz0 6 s rfl fun a s=>?_
  exact ⟨rfl,(s.fix 23 (.bool (((a1.From == b5.From) && (a1.To == b5.To)) && ((a1.Rate.Num == b5.Rate.Num) && ((a1.Rate.Den == b5.Rate.Den) && true)))) rfl (a3h h12)).weaken _ ⟨rfl,rfl,rfl,trivial⟩⟩
 rintro a w1 ⟨h34,s⟩
 subst h34
 refine mv s rfl rfl fun a s=>?_
 refine o7 6 (fun a w1=>w=w1∧Sl 38 [(2,pt b9),(3,pt b10),(30,.bool ((((a1.From == b5.From) && (a1.To == b5.To)) && ((a1.Rate.Num == b5.Rate.Num) && ((a1.Rate.Den == b5.Rate.Den) && true))) && ((a1.Position.X == b5.Position.X) && ((a1.Position.Y == b5.Position.Y) && ((a1.Position.Z == b5.Position.Z) && true)))))] a) ?_ ?_
 ·rcases Bool.eq_false_or_eq_true (((a1.From == b5.From) && (a1.To == b5.To)) && ((a1.Rate.Num == b5.Rate.Num) && ((a1.Rate.Den == b5.Rate.Den) && true))) with h13 | h13
  ·have s:=s.bT 24 rfl h13
   refine rn 4 [1,0] s d rfl rfl fun a s=>?_
   refine y8 s (a1Q (by kernel_rfl) rfl rfl (P6 runUnderlying36 (by kernel_rfl) (EqF.cons1 rfl isAgg3 rfl rfl (F4 runUnderlying3) (EqF.cons1 rfl isAgg3 rfl rfl (F4 runUnderlying3) (EqF.cons1 rfl isAgg3 rfl rfl (F4 runUnderlying3) EqF.nil))))) ⟨_,rfl,rfl⟩ rfl rfl fun a s=>?_
   refine rz0 1 s rfl fun a s=>?_
   exact ⟨rfl,(s.fix 30 (.bool ((((a1.From == b5.From) && (a1.To == b5.To)) && ((a1.Rate.Num == b5.Rate.Num) && ((a1.Rate.Den == b5.Rate.Den) && true))) && ((a1.Position.X == b5.Position.X) && ((a1.Position.Y == b5.Position.Y) && ((a1.Position.Z == b5.Position.Z) && true))))) rfl (a3i h13)).weaken _ ⟨rfl,rfl,rfl,trivial⟩⟩
  have s:=s.bF 24 rfl h13
  refine rz0 6 s rfl fun a s=>?_
  exact ⟨rfl,(s.fix 30 (.bool ((((a1.From == b5.From) && (a1.To == b5.To)) && ((a1.Rate.Num == b5.Rate.Num) && ((a1.Rate.Den == b5.Rate.Den) && true))) && ((a1.Position.X == b5.Position.X) && ((a1.Position.Y == b5.Position.Y) && ((a1.Position.Z == b5.Position.Z) && true))))) rfl (a3h h13)).weaken _ ⟨rfl,rfl,rfl,trivial⟩⟩
 rintro a w1 ⟨h33,s⟩
 subst h33
 refine mv s rfl rfl fun a s=>?_
 obtain ⟨c23,hc23,u⟩:=bt u
 refine o7 6 (fun a w=>∃ Sv24,Sl 38 [(37,.bool c23)] a∧Wd ⟨w0,S0,[]⟩ Sv24 [] [] w) ?_ ?_
 ·rcases Bool.eq_false_or_eq_true ((((a1.From == b5.From) && (a1.To == b5.To)) && ((a1.Rate.Num == b5.Rate.Num) && ((a1.Rate.Den == b5.Rate.Den) && true))) && ((a1.Position.X == b5.Position.X) && ((a1.Position.Y == b5.Position.Y) && ((a1.Position.Z == b5.Position.Z) && true)))) with h22 | h22
  ·have s:=s.bT 31 rfl h22
   have u:=D5 hc23 h22
   refine rn 4 [1,0] s d rfl rfl fun a s=>?_
   obtain ⟨rv26,h25,u⟩:=bt u
   refine q9 s (a5P h25 d.bdom (d.bE 1 rfl) (d.bE 0 rfl)) (d9 call136 rfl) ⟨_,rfl,rfl⟩ rfl rfl ?_
   rintro v30 Sv27 w a h28 rfl s
   have d:=d.callB h28
   refine sv s (G8 rfl rfl) rfl fun a s=>?_
   refine wpList_nil ?_
   obtain rfl:=oi u
   exact tn ⟨S0,wj s d [] []⟩
  have s:=s.bF 31 rfl h22
  have u:=D6 hc23 h22
  refine rn0 6 s rfl fun a s=>?_
  refine wpList_nil ?_
  obtain rfl:=oi u
  exact tn ⟨S0,wj s d [] []⟩
 rintro a w ⟨Sv24,s,d⟩
 refine rz0 1 s rfl fun a s=>?_
 obtain rfl:=oi u
 exact q1 s rfl (d.ret rfl)
theorem a9A {w0 S0 p2 k3 e1 r} (u:a4x e1=some r) (hS:Dm S0 w0) (h4:(Sq p2 k3 e1.Response.Stages).p S0 w0):Ck Tryz.prog 87 #[V41 e1 p2 k3] w0 S0 [] l7 r:=by
 refine en 6 func87 rfl hS rfl rfl rfl fun a s d=>?_
 have d:=d.addE h4
 refine sr (wb (C41 e1 p2 k3) s d rfl fun b5 a w s d=>?_)
 refine rz0 1 s rfl fun a s=>?_
 refine sn 1 [0] s d rfl rfl fun a s=>?_
 refine sv s (z8 (vs:=[]) Bld41 rfl rfl) rfl fun a s=>?_
 obtain ⟨rv7,h6,u⟩:=bt u
 have d:=d.addE (e:=SlA (α:=Stage) none 0 0 []) M8
 refine cV s d (a6i h6 d.bdom (d.bE 1 rfl) (d.bE 0 rfl)) (d9 call125 rfl) rfl fun a w s d=>?_
 refine rz0 1 s rfl fun a s=>?_
 obtain rfl:=oi u
 exact q1 s rfl (d.ret rfl)
theorem a8Z {w0 S0 p2 k3 p6 k7 inv1 c5 r} (u:a3O inv1 c5=some r) (hS:Dm S0 w0) (h4:(Sq p2 k3 inv1.Channels).p S0 w0) (h8:(Sq p6 k7 c5.Epoch.Response.Stages).p S0 w0):Ck Tryz.prog 47 #[.agg #[sl p2 k3 inv1.Channels],V43 c5 p6 k7] w0 S0 [] l7 r:=by
 refine en 39 func47 rfl hS rfl rfl rfl fun a s d=>?_
 have d:=(d.addE h4).addE h8
 refine sr (wb [sl p2 k3 inv1.Channels] s d rfl fun b9 a w s d=>?_)
 refine wb (C43 c5 p6 k7) s d rfl fun b10 a w s d=>?_
 refine rz0 1 s rfl fun a s=>?_
 refine wp_seq (sn 1 [1] s d rfl rfl fun a s=>?_)
 obtain ⟨rv12,h11,u⟩:=bt u
 refine cV s d (a1i h11 d.bdom (d.bE 1 rfl)) (d9 call55 rfl) rfl fun a w s d=>?_
 refine rn0 2 s rfl fun a s=>?_
 obtain ⟨c28,hc28,u⟩:=bt u
 refine o7 5 (fun a w=>∃ Sv29,Sl 39 [(3,pt b10),(13,.bool c28)] a∧Wd ⟨w0,S0,[]⟩ Sv29 [.box b10 (C43 c5 p6 k7) 43] [Sq p6 k7 c5.Epoch.Response.Stages] w) ?_ ?_
 ·rcases Bool.eq_false_or_eq_true (!rv12) with h27 | h27
  ·have s:=s.bT 8 rfl h27
   have u:=D5 hc28 h27
   refine rn0 5 s rfl fun a s=>?_
   refine wpList_nil ?_
   obtain rfl:=oi u
   exact tn ⟨S0,wj s d [0] [0]⟩
  have s:=s.bF 8 rfl h27
  have u:=D6 hc28 h27
  refine rn 2 [0] s d rfl rfl fun a s=>?_
  obtain ⟨rv31,h30,u⟩:=bt u
  refine q9 s (a1H h30 d.bdom) (d9 call85 rfl) ⟨_,rfl,rfl⟩ rfl rfl ?_
  rintro v35 Sv32 w a h33 rfl s
  have d:=d.callB h33
  refine rn0 2 s rfl fun a s=>?_
  refine wpList_nil ?_
  obtain rfl:=oi u
  exact tn ⟨S0,wj s d [0] [0]⟩
 rintro a w ⟨Sv29,s,d⟩
 refine nl (cd s u rfl (fun u=>?_) fun u=>?_)
 ·refine sz0 1 s rfl fun a s=>?_
  obtain rfl:=oi u
  exact wp_ret (j3 (rt s rfl (d.ret rfl)))
 refine sk (wp_seq (sz 2 [0] s d rfl rfl fun a s=>?_))
 refine wp_block (sz0 2 s rfl fun a s=>?_)
 refine cd s u rfl (fun u=>?_) fun u=>?_
 ·refine sn 2 [0] s d rfl rfl fun a s=>?_
  obtain ⟨rv98,h97,u⟩:=bt u
  refine cV s d (Q8 h97 d.bdom (d.bE 0 rfl)) (d9 call86 rfl) rfl fun a w s d=>?_
  refine mv s rfl rfl fun a s=>?_
  refine rA 7 21 [0,0] s d rfl rfl rfl rfl rfl fun a s=>?_
  refine rz0 1 s rfl fun a s=>?_
  obtain rfl:=oi u
  exact wp_ret (r9 (j3 (rt s rfl (d.ret rfl))))
 refine sz0 2 s rfl fun a s=>?_
 refine cd s u rfl (fun u=>?_) fun u=>?_
 ·refine sn 2 [0] s d rfl rfl fun a s=>?_
  obtain ⟨rv126,h125,u⟩:=bt u
  refine cV s d (a9A h125 d.bdom (d.bE 0 rfl)) (d9 call87 rfl) rfl fun a w s d=>?_
  refine rz0 1 s rfl fun a s=>?_
  obtain rfl:=oi u
  exact wp_ret (r9 (j3 (rt s rfl (d.ret rfl))))
 refine sz0 2 s rfl fun a s=>?_
 refine cd s u rfl (fun u=>?_) fun u=>?_
 ·refine sn 2 [0] s d rfl rfl fun a s=>?_
  obtain ⟨rv144,h143,u⟩:=bt u
  refine cV s d (Q8 h143 d.bdom (d.bE 0 rfl)) (d9 call86 rfl) rfl fun a w s d=>?_
  refine rz0 1 s rfl fun a s=>?_
  obtain rfl:=oi u
  exact wp_ret (r9 (j3 (rt s rfl (d.ret rfl))))
 refine wp_skip (l9 (tn (sz0 1 s rfl fun a s=>?_)))
 obtain rfl:=oi u
 exact q1 s rfl (d.ret rfl)
abbrev G5 (w0:World) (X:List Nat) (r:(List Channel)):Rd:=fun S w v=>∃ p0_0 k0_0 c0_0,v=sl p0_0 k0_0 r∧Outs X w0 S w [.row p0_0 r.length k0_0 c0_0 73 5]∧(j6 c0_0 r).p S w
theorem U2 {w0 S0 p2 k3 s1 r} (u:K6 s1=some r) (hS:Dm S0 w0) (h4:(Sq p2 k3 s1).p S0 w0):Ck Tryz.prog 88 #[sl p2 k3 s1] w0 S0 [] G5 r:=by
 refine en 8 func88 rfl hS rfl rfl rfl fun a s d=>?_
 have d:=d.addE h4
 delta K6 at u
 refine sz0 1 s rfl fun a s=>?_
 refine wp_seq (sn0 1 s rfl fun a s=>?_)
 refine sv s (a9F runUnderlying27 rfl rfl) rfl fun a s=>?_
 refine nl ?_
 have hsv15:=s
 have hwv16:=d
 rcases p2 with _ | av8
 ·have s:=hsv15
  have d:=hwv16
  obtain rfl:=b1F (d.envAt 0 rfl)
  have u:some ([]:List Channel)=some r:=by simpa [R5,maxLen] using u
  refine wp_cond_true (s.ev rfl) ?_
  refine sz0 1 s rfl fun a s=>?_
  obtain rfl:=oi u
  have d:=d.nilRow Channel 73
  exact wp_ret (j3 (rt s rfl (d.ret ⟨none,0,[],rfl,(d.outs [0] (by decide) rfl),(d.envAt 0 rfl)⟩)))
 have s:=hsv15
 have d:=hwv16
 refine wp_cond_false (s.ev rfl) ?_
 refine sk (sr (a1x (α:=Channel) (vs:=[]) (cs:=[]) (xs:=([]:List Channel)) s d a6R rfl rfl rfl rfl rfl rfl rfl rfl trivial fun p9 a w s d=>?_))
 refine mv s rfl rfl fun a s=>?_
 obtain ⟨l11,h10,u⟩:=bt u
 refine P9 (α:=Channel) s d a6R 0 rfl rfl rfl 0 rfl 1 rfl h10 rfl trivial ?_
 intro p12 k13 c14 a w s d
 refine rz0 1 s rfl fun a s=>?_
 obtain rfl:=oi u
 exact q1 s rfl (d.ret ⟨p12,k13,c14,rfl,(d.outs [0] (by decide) rfl),(d.envAt 0 rfl)⟩)
abbrev H9 (w0:World) (X:List Nat) (r:(List Epoch)):Rd:=fun S w v=>∃ p0_0 k0_0 c0_0,v=sl p0_0 k0_0 r∧Outs X w0 S w [.row p0_0 r.length k0_0 c0_0 41 8]∧(j6 c0_0 r).p S w
theorem a2F {w0 S0 p2 k3 s1 r} (u:O1 s1=some r) (hS:Dm S0 w0) (h4:(Sq p2 k3 s1).p S0 w0):Ck Tryz.prog 126 #[sl p2 k3 s1] w0 S0 [] H9 r:=by
 refine en 8 func126 rfl hS rfl rfl rfl fun a s d=>?_
 have d:=d.addE h4
 delta O1 at u
 refine sz0 1 s rfl fun a s=>?_
 refine wp_seq (sn0 1 s rfl fun a s=>?_)
 refine sv s (a9F runUnderlying71 rfl rfl) rfl fun a s=>?_
 refine nl ?_
 have hsv15:=s
 have hwv16:=d
 rcases p2 with _ | av8
 ·have s:=hsv15
  have d:=hwv16
  obtain rfl:=b1F (d.envAt 0 rfl)
  have u:some ([]:List Epoch)=some r:=by simpa [R5,maxLen] using u
  refine wp_cond_true (s.ev rfl) ?_
  refine sz0 1 s rfl fun a s=>?_
  obtain rfl:=oi u
  have d:=d.nilRow Epoch 41
  exact wp_ret (j3 (rt s rfl (d.ret ⟨none,0,[],rfl,(d.outs [0] (by decide) rfl),(d.envAt 0 rfl)⟩)))
 have s:=hsv15
 have d:=hwv16
 refine wp_cond_false (s.ev rfl) ?_
 refine sk (sr (a1x (α:=Epoch) (vs:=[]) (cs:=[]) (xs:=([]:List Epoch)) s d a5I rfl rfl rfl rfl rfl rfl rfl rfl trivial fun p9 a w s d=>?_))
 refine mv s rfl rfl fun a s=>?_
 obtain ⟨l11,h10,u⟩:=bt u
 refine P9 (α:=Epoch) s d a5I 0 rfl rfl rfl 0 rfl 1 rfl h10 rfl trivial ?_
 intro p12 k13 c14 a w s d
 refine rz0 1 s rfl fun a s=>?_
 obtain rfl:=oi u
 exact q1 s rfl (d.ret ⟨p12,k13,c14,rfl,(d.outs [0] (by decide) rfl),(d.envAt 0 rfl)⟩)
abbrev a2H (w0:World) (X:List Nat) (r:(List Stage)):Rd:=fun S w v=>∃ p0_0 k0_0 c0_0,v=sl p0_0 k0_0 r∧Outs X w0 S w [.row p0_0 r.length k0_0 c0_0 138 10]∧(j6 c0_0 r).p S w
theorem a2G {w0 S0 p2 k3 s1 r} (u:O3 s1=some r) (hS:Dm S0 w0) (h4:(Sq p2 k3 s1).p S0 w0):Ck Tryz.prog 129 #[sl p2 k3 s1] w0 S0 [] a2H r:=by
 refine en 8 func129 rfl hS rfl rfl rfl fun a s d=>?_
 have d:=d.addE h4
 delta O3 at u
 refine sz0 1 s rfl fun a s=>?_
 refine wp_seq (sn0 1 s rfl fun a s=>?_)
 refine sv s (a9F runUnderlying37 rfl rfl) rfl fun a s=>?_
 refine nl ?_
 have hsv15:=s
 have hwv16:=d
 rcases p2 with _ | av8
 ·have s:=hsv15
  have d:=hwv16
  obtain rfl:=b1F (d.envAt 0 rfl)
  have u:some ([]:List Stage)=some r:=by simpa [R5,maxLen] using u
  refine wp_cond_true (s.ev rfl) ?_
  refine sz0 1 s rfl fun a s=>?_
  obtain rfl:=oi u
  have d:=d.nilRow Stage 138
  exact wp_ret (j3 (rt s rfl (d.ret ⟨none,0,[],rfl,(d.outs [0] (by decide) rfl),(d.envAt 0 rfl)⟩)))
 have s:=hsv15
 have d:=hwv16
 refine wp_cond_false (s.ev rfl) ?_
 refine sk (sr (a1x (α:=Stage) (vs:=[]) (cs:=[]) (xs:=([]:List Stage)) s d El37 rfl rfl rfl rfl rfl rfl rfl rfl trivial fun p9 a w s d=>?_))
 refine mv s rfl rfl fun a s=>?_
 obtain ⟨l11,h10,u⟩:=bt u
 refine P9 (α:=Stage) s d El37 0 rfl rfl rfl 0 rfl 1 rfl h10 rfl trivial ?_
 intro p12 k13 c14 a w s d
 refine rz0 1 s rfl fun a s=>?_
 obtain rfl:=oi u
 exact q1 s rfl (d.ret ⟨p12,k13,c14,rfl,(d.outs [0] (by decide) rfl),(d.envAt 0 rfl)⟩)
abbrev a5G (w0:World) (X:List Nat) (r:(List Int)):Rd:=fun S w v=>∃ p0_0 k0_0 c0_0,v=sl p0_0 k0_0 r∧Outs X w0 S w [.row p0_0 r.length k0_0 c0_0 3 1]∧(j6 c0_0 r).p S w
theorem a5F {w0 S0 p2 k3 s1 r} (u:a0h s1=some r) (hS:Dm S0 w0) (h4:(Sq p2 k3 s1).p S0 w0):Ck Tryz.prog 130 #[sl p2 k3 s1] w0 S0 [] a5G r:=by
 refine en 8 func130 rfl hS rfl rfl rfl fun a s d=>?_
 have d:=d.addE h4
 delta a0h at u
 refine sz0 1 s rfl fun a s=>?_
 refine wp_seq (sn0 1 s rfl fun a s=>?_)
 refine sv s (a9F runUnderlying22 rfl rfl) rfl fun a s=>?_
 refine nl ?_
 have hsv15:=s
 have hwv16:=d
 rcases p2 with _ | av8
 ·have s:=hsv15
  have d:=hwv16
  obtain rfl:=b1F (d.envAt 0 rfl)
  have u:some ([]:List Int)=some r:=by simpa [R5,maxLen] using u
  refine wp_cond_true (s.ev rfl) ?_
  refine sz0 1 s rfl fun a s=>?_
  obtain rfl:=oi u
  have d:=d.nilRow Int 3
  exact wp_ret (j3 (rt s rfl (d.ret ⟨none,0,[],rfl,(d.outs [0] (by decide) rfl),(d.envAt 0 rfl)⟩)))
 have s:=hsv15
 have d:=hwv16
 refine wp_cond_false (s.ev rfl) ?_
 refine sk (sr (a1x (α:=Int) (vs:=[]) (cs:=[]) (xs:=([]:List Int)) s d a5w rfl rfl rfl rfl rfl rfl rfl rfl trivial fun p9 a w s d=>?_))
 refine mv s rfl rfl fun a s=>?_
 obtain ⟨l11,h10,u⟩:=bt u
 refine P9 (α:=Int) s d a5w 0 rfl rfl rfl 0 rfl 1 rfl h10 rfl trivial ?_
 intro p12 k13 c14 a w s d
 refine rz0 1 s rfl fun a s=>?_
 obtain rfl:=oi u
 exact q1 s rfl (d.ret ⟨p12,k13,c14,rfl,(d.outs [0] (by decide) rfl),(d.envAt 0 rfl)⟩)
abbrev a3y (w0:World) (X:List Nat) (r:Epoch):Rd:=fun S w v=>∃ p0_7 k0_7 c0_7,v=V41 r p0_7 k0_7∧Outs X w0 S w [.row p0_7 r.Response.Stages.length k0_7 c0_7 138 10]∧(j6 c0_7 r.Response.Stages).p S w
theorem a3x {w0 S0 p2 k3 e1 r} (u:X4 e1=some r) (hS:Dm S0 w0) (h4:(Sq p2 k3 e1.Response.Stages).p S0 w0):Ck Tryz.prog 97 #[V41 e1 p2 k3] w0 S0 [] a3y r:=by
 refine en 33 func97 rfl hS rfl rfl rfl fun a s d=>?_
 have d:=d.addE h4
 refine sr (wb (C41 e1 p2 k3) s d rfl fun b5 a w s d=>?_)
 refine wa Z1 s d zeroValue41 fun b6 a w s d=>?_
 refine nl (sn 3 [1] s d rfl rfl fun a s=>?_)
 obtain ⟨rv8,h7,u⟩:=bt u
 refine cR s (a2G h7 d.dom (d.envAt 0 rfl)) (d9 call129 rfl) rfl ?_
 rintro v16 Sv13 w a h14 ⟨p9,k10,c12,rfl,h17,h11⟩ s
 have d:=(d.callN h14 h17).addE (e:=j6 c12 rv8) h11
 refine rn0 2 s rfl fun a s=>?_
 refine ws (C41 ⟨e1.From,e1.To,e1.Rate,e1.Position,⟨rv8⟩⟩ p9 k10) s d 2 rfl rfl rfl sizeOf37 fun a w s d=>?_
 refine nl (wp_seq (sz 5 [2] s d rfl rfl fun a s=>?_))
 obtain ⟨e157,h254,u⟩:=bt u
 refine x9 (fun a w=>∃ c158 p159 k160 Sv161,Sl 33 [(1,pt b5),(2,pt b6)] a∧Wd ⟨w0,S0,[]⟩ Sv161 [.box b5 (C41 ⟨e1.From,e1.To,e1.Rate,e1.Position,⟨e157⟩⟩ p159 k160) 41,.box b6 Z1 41,.row p159 e157.length k160 c158 138 10] [Sq none 0 ([]:List Stage),j6 c158 e157] w) ?_ ?_
 ·refine wp_block ?_
  have d:=d.addE (e:=SlA (α:=Stage) none 0 0 []) M8
  refine u7 (fun sv19 a w=>∃ c108 p109 k110 Sv111,Sl 33 [(1,pt b5),(2,pt b6),(13,iv (rv8.length:Int)),(14,iv sv19.2)] a∧Wd ⟨w0,S0,[]⟩ Sv111 [.box b5 (C41 ⟨e1.From,e1.To,e1.Rate,e1.Position,⟨sv19.1⟩⟩ p109 k110) 41,.box b6 Z1 41,.row p109 sv19.1.length k110 c108 138 10] [Sq none 0 ([]:List Stage),j6 c108 sv19.1] w) (rv8,0) h254 ⟨c12,p9,k10,Sv13,wj s d [2,1,0] [0,1]⟩ ?_
  clear h254
  repeat clear u
  rintro sv19 a w tv155 ⟨c108,p109,k110,Sv111,s,d⟩ u hd154
  refine sz0 1 s rfl fun a s=>?_
  refine wp_seq (cd s u rfl (fun u=>?_) fun u=>?_)
  ·refine sk (wp_seq (wp_block (sz0 2 s rfl fun a s=>?_)))
   obtain ⟨x207,h205,u⟩:=bt u
   obtain ⟨b214,q211,c212,h215,h208,h209,h213,h206⟩:=d.elemRV (α:=Stage) 2 rfl 1 rfl h205
   have hsv216:=s
   have hwv217:=d
   subst h215
   have s:=hsv216
   have d:=hwv217
   obtain ⟨_,_,_,_,_,_,_,_,_,_,rfl,rfl,rfl,rfl,rfl,rfl,rfl,rfl,⟨p218,n219,k220,rfl,h221⟩,rfl,rfl⟩:=h206
   obtain rfl:=h221.1
   have d:=d.addE (e:=SlA p218 _ k220 x207.Taps) h221
   obtain ⟨rv223,h222,u⟩:=bt u
   obtain ⟨x230,h228,u⟩:=bt u
   obtain ⟨q234,c235,h231,h232,h236,h229⟩:=d.elemRK (α:=Stage) 2 rfl 2 rfl h228
   obtain ⟨_,_,_,_,_,_,_,_,_,_,rfl,rfl,rfl,rfl,rfl,rfl,rfl,rfl,⟨p237,n238,k239,rfl,h240⟩,rfl,rfl⟩:=h229
   obtain rfl:=h240.1
   have d:=d.addE (e:=SlA p237 _ k239 x230.Taps) h240
   obtain ⟨l242,h241,u⟩:=bt u
   refine y9 (fun a w=>∃ Sv245 c243,Sl 33 [(1,pt b5),(2,pt b6),(13,iv (rv8.length:Int)),(14,iv sv19.2)] a∧Wd ⟨w0,S0,[]⟩ Sv245 [.box b5 (C41 ⟨e1.From,e1.To,e1.Rate,e1.Position,⟨l242⟩⟩ (ad b214) k110) 41,.box b6 Z1 41,.row (ad b214) l242.length k110 c243 138 10] [Sq none 0 ([]:List Stage),j6 c243 l242] w) ?_ ?_
   ·refine h_c [0,1] [] d rfl rfl (by kernel_rfl) rfl fun hC d=>?_
    refine gn 8 [0,1,2,3,4,5,6,7] [0,0] s hC rfl rfl rfl fun a s=>?_
    refine gx s 8 rfl trivial rfl hC runUnderlying37 sizeOf138 rfl rfl h208 h209 fun a s=>?_
    refine gv s 9 rfl rfl hC (fun w hC=>j5 (o':=q211+7) runUnderlying138 rfl sizeOf22 rfl rfl rfl) fun a s=>?_
    refine ho 10 rfl ?_
    refine sv s (K5 (j:=7) (d.ownAt 2 rfl) rfl isAgg22 h213 rfl) rfl fun a s=>?_
    refine h_n [0,1] [] d rfl rfl fun hC=>?_
    refine ho 11 rfl ?_
    refine cR s (a5F h222 d.dom (d.envAt 1 rfl)) (d9 call130 rfl) rfl ?_
    rintro v249 Sv246 w a h247 ⟨p224,k225,c227,rfl,h250,h226⟩ s
    have d:=(d.callN h247 h250).addE (e:=j6 c227 rv223) h226
    refine h_n [1,2] [] d rfl rfl fun hC=>?_
    refine gx s 12 rfl trivial rfl hC runUnderlying37 sizeOf138 rfl rfl h231 h232 fun a s=>?_
    refine gv s 13 rfl rfl hC (fun w hC=>j5 (o':=q234+7) runUnderlying138 rfl sizeOf22 rfl rfl rfl) fun a s=>?_
    refine ho 14 rfl ?_
    obtain ⟨Sv252,d⟩:=A9 (α:=Int) d 0 rfl 0 rfl
    refine a5l (α:=Stage) (f:=7) (m:=1) s d 2 rfl 5 rfl h232 rfl rfl sizeOf22 rfl rfl rfl h241 (fun es he=>by rw [h236] at he;subst he;exact ⟨_,_,_,_,_,_,_,_,_,_,rfl,rfl,rfl,rfl,rfl,rfl,rfl,rfl,⟨_,_,_,rfl,d.envAt 0 rfl⟩,rfl,rfl⟩) trivial ?_
    intro c243 a w s d
    have h244:=Y0 h241
    try have s:=s.fl 19 rfl h244
    try have s:=s.fl 23 rfl h244
    refine h_n [0,1] [] d rfl rfl fun hC=>?_
    refine x8 (by kernel_rfl) ?_
    have d:=d.fixB 0 7 rfl rfl h244
    exact ⟨Sv252,c243,wj s d [0,1,2] [5,0]⟩
   rintro a w ⟨Sv245,c243,s,d⟩
   refine l9 (tn (wp_region_lit (rz0 2 s rfl fun a s=>?_)))
   exact ⟨_,io u,c243,(ad b214),k110,Sv245,wj s d [0,1,2] [0,1]⟩
  refine wp_exit (j4 (j4 (o9 ?_)))
  obtain rfl:=oi u
  have h253:=hd154 _ rfl
  subst h253
  exact tn ⟨c108,p109,k110,Sv111,wj s d [0,1,2] [0,1]⟩
 rintro a w ⟨c158,p159,k160,Sv161,s,d⟩
 refine tn (sn 1 [0] s d rfl rfl fun a s=>?_)
 refine ws (C41 ⟨e1.From,e1.To,e1.Rate,e1.Position,⟨e157⟩⟩ p159 k160) s d 1 rfl rfl rfl sizeOf41 fun a w s d=>?_
 refine nl ?_
 obtain rfl:=oi u
 exact wp_ret (a6w s rfl (F7 d 1 rfl rfl isAgg41 sizeOf41 rfl) (d.ret ⟨p159,k160,c158,rfl,(d.outs [2] (by decide) rfl),(d.envAt 1 rfl)⟩))
abbrev a7K (w0:World) (X:List Nat) (r:Channel):Rd:=fun S w v=>∃ p0_4 k0_4 c0_4,v=V73 r p0_4 k0_4∧Outs X w0 S w [.row p0_4 r.Epochs.length k0_4 c0_4 41 8]∧(j6 c0_4 r.Epochs).p S w
theorem a2D {w0 S0 p2 k3 c1 r} (u:a0Q c1=some r) (hS:Dm S0 w0) (h4:(Sq p2 k3 c1.Epochs).p S0 w0):Ck Tryz.prog 89 #[V73 c1 p2 k3] w0 S0 [] a7K r:=by
 refine en 25 func89 rfl hS rfl rfl rfl fun a s d=>?_
 have d:=d.addE h4
 refine sr (wb (C73 c1 p2 k3) s d rfl fun b5 a w s d=>?_)
 refine wa Z2 s d zeroValue73 fun b6 a w s d=>?_
 refine nl (sn 2 [1] s d rfl rfl fun a s=>?_)
 obtain ⟨rv8,h7,u⟩:=bt u
 refine cR s (a2F h7 d.dom (d.envAt 0 rfl)) (d9 call126 rfl) rfl ?_
 rintro v16 Sv13 w a h14 ⟨p9,k10,c12,rfl,h17,h11⟩ s
 have d:=(d.callN h14 h17).addE (e:=j6 c12 rv8) h11
 refine sv s (j5 (o':=4) runUnderlying73 rfl sizeOf71 rfl rfl rfl) rfl fun a s=>?_
 refine ws (C73 ⟨c1.Source,rv8⟩ p9 k10) s d 2 rfl rfl rfl sizeOf71 fun a w s d=>?_
 refine nl (wp_seq (sz 4 [2] s d rfl rfl fun a s=>?_))
 obtain ⟨e160,h259,u⟩:=bt u
 refine x9 (fun a w=>∃ c161 p162 k163 Sv164,Sl 25 [(1,pt b5),(2,pt b6)] a∧Wd ⟨w0,S0,[]⟩ Sv164 [.box b5 (C73 ⟨c1.Source,e160⟩ p162 k163) 73,.box b6 Z2 73,.row p162 e160.length k163 c161 41 8] [Sq none 0 ([]:List Epoch),j6 c161 e160] w) ?_ ?_
 ·refine wp_block ?_
  have d:=d.addE (e:=SlA (α:=Epoch) none 0 0 []) M8
  refine u7 (fun sv19 a w=>∃ c110 p111 k112 Sv113,Sl 25 [(1,pt b5),(2,pt b6),(10,sl p111 k112 sv19.1),(11,iv (rv8.length:Int)),(12,iv sv19.2)] a∧Wd ⟨w0,S0,[]⟩ Sv113 [.box b5 (C73 ⟨c1.Source,sv19.1⟩ p111 k112) 73,.box b6 Z2 73,.row p111 sv19.1.length k112 c110 41 8] [Sq none 0 ([]:List Epoch),j6 c110 sv19.1] w) (rv8,0) h259 ⟨c12,p9,k10,Sv13,wj s d [2,1,0] [0,1]⟩ ?_
  clear h259
  repeat clear u
  rintro sv19 a w tv158 ⟨c110,p111,k112,Sv113,s,d⟩ u hd157
  refine sz0 1 s rfl fun a s=>?_
  refine wp_seq (cd s u rfl (fun u=>?_) fun u=>?_)
  ·refine sk (wp_seq (wp_block (sn0 1 s rfl fun a s=>?_)))
   obtain ⟨x211,h209,u⟩:=bt u
   obtain ⟨b218,q215,c216,h219,h212,h213,h217,h210⟩:=d.elemRV (α:=Epoch) 2 rfl 1 rfl h209
   have hsv220:=s
   have hwv221:=d
   subst h219
   have s:=hsv220
   have d:=hwv221
   obtain ⟨_,_,_,_,_,_,_,_,rfl,rfl,rfl,rfl,rfl,rfl,rfl,rfl,⟨p222,n223,k224,rfl,h225⟩⟩:=h210
   obtain rfl:=h225.1
   have d:=d.addE (e:=SlA p222 _ k224 x211.Response.Stages) h225
   refine sv s (o8 runUnderlying71 sizeOf41 rfl rfl h212.1 h212.2 h213) rfl fun a s=>?_
   refine sv s (Q0 (j:=0) (d.ownAt 2 rfl) rfl isAgg41 sizeOf41 h217 rfl rfl) rfl fun a s=>?_
   refine wa Z1 s d zeroValue41 fun b226 a w s d=>?_
   refine av s rfl rfl fun a s=>?_
   refine ws (C41 x211 p222 k224) s d 0 rfl rfl rfl sizeOf41 fun a w s d=>?_
   refine nl ?_
   obtain ⟨rv228,h227,u⟩:=bt u
   obtain ⟨x235,h233,u⟩:=bt u
   obtain ⟨q239,c240,h236,h237,h241,h234⟩:=d.elemRK (α:=Epoch) 3 rfl 2 rfl h233
   obtain ⟨_,_,_,_,_,_,_,_,rfl,rfl,rfl,rfl,rfl,rfl,rfl,rfl,⟨p242,n243,k244,rfl,h245⟩⟩:=h234
   obtain rfl:=h245.1
   have d:=d.addE (e:=SlA p242 _ k244 x235.Response.Stages) h245
   obtain ⟨l247,h246,u⟩:=bt u
   refine y9 (fun a w=>∃ Sv250 c248,Sl 25 [(1,pt b5),(2,pt b6),(10,sl (ad b218) k112 l247),(11,iv (rv8.length:Int)),(12,iv sv19.2)] a∧Wd ⟨w0,S0,[]⟩ Sv250 [.box b5 (C73 ⟨c1.Source,l247⟩ (ad b218) k112) 73,.box b6 Z2 73,.row (ad b218) l247.length k112 c248 41 8] [Sq none 0 ([]:List Epoch),j6 c248 l247] w) ?_ ?_
   ·refine h_c [0,1,2] [] d rfl rfl (by kernel_rfl) rfl fun hC d=>?_
    refine gn 4 [0,1,2,3] [1,0] s hC rfl rfl rfl fun a s=>?_
    refine ho 4 rfl ?_
    refine cR s (a3x h227 d.dom (d.envAt 1 rfl)) (d9 call97 rfl) rfl ?_
    rintro v254 Sv251 w a h252 ⟨p229,k230,c232,rfl,h255,h231⟩ s
    have d:=(d.callN h252 h255).addE (e:=j6 c232 rv228.Response.Stages) h231
    refine h_n [1,2,3] [] d rfl rfl fun hC=>?_
    refine gx s 5 rfl trivial rfl hC runUnderlying71 sizeOf41 rfl rfl h236 h237 fun a s=>?_
    refine ho 6 rfl ?_
    obtain ⟨Sv257,d⟩:=A9 (α:=Stage) d 0 rfl 0 rfl
    refine a5k (α:=Epoch) s d 3 rfl 5 rfl h237 rfl rfl sizeOf41 rfl h246 ⟨_,_,_,_,_,_,_,_,rfl,rfl,rfl,rfl,rfl,rfl,rfl,rfl,⟨_,_,_,rfl,d.envAt 0 rfl⟩⟩ trivial ?_
    intro c248 a w s d
    have h249:=Y0 h246
    try have s:=s.fl 10 rfl h249
    try have s:=s.fl 18 rfl h249
    refine h_n [0,1,2] [] d rfl rfl fun hC=>?_
    refine x8 (by kernel_rfl) ?_
    have d:=d.fixB 1 4 rfl rfl h249
    exact ⟨Sv257,c248,wj s d [1,2,3] [5,0]⟩
   rintro a w ⟨Sv250,c248,s,d⟩
   refine l9 (tn (wp_region_lit (rz0 2 s rfl fun a s=>?_)))
   exact ⟨_,io u,c248,(ad b218),k112,Sv250,wj s d [0,1,2] [0,1]⟩
  refine wp_exit (j4 (j4 (o9 ?_)))
  obtain rfl:=oi u
  have h258:=hd157 _ rfl
  subst h258
  exact tn ⟨c110,p111,k112,Sv113,wj s d [0,1,2] [0,1]⟩
 rintro a w ⟨c161,p162,k163,Sv164,s,d⟩
 refine tn (sn 1 [0] s d rfl rfl fun a s=>?_)
 refine ws (C73 ⟨c1.Source,e160⟩ p162 k163) s d 1 rfl rfl rfl sizeOf73 fun a w s d=>?_
 refine nl ?_
 obtain rfl:=oi u
 exact wp_ret (a6w s rfl (F7 d 1 rfl rfl isAgg73 sizeOf73 rfl) (d.ret ⟨p162,k163,c161,rfl,(d.outs [2] (by decide) rfl),(d.envAt 1 rfl)⟩))
abbrev a5o (w0:World) (X:List Nat) (r:Inventory):Rd:=fun S w v=>∃ p0_0 k0_0 c0_0,v=.agg #[sl p0_0 k0_0 r.Channels]∧Outs X w0 S w [.row p0_0 r.Channels.length k0_0 c0_0 73 5]∧(j6 c0_0 r.Channels).p S w
abbrev E48_0:List Value:=[.slice none ([]:List Channel).length 0]
theorem a8H {w0 S0 p2 k3 inv1 r} (u:a0P inv1=some r) (hS:Dm S0 w0) (h4:(Sq p2 k3 inv1.Channels).p S0 w0):Ck Tryz.prog 48 #[.agg #[sl p2 k3 inv1.Channels]] w0 S0 [] a5o r:=by
 refine en 25 func48 rfl hS rfl rfl rfl fun a s d=>?_
 have d:=d.addE h4
 refine sr (wb [sl p2 k3 inv1.Channels] s d rfl fun b5 a w s d=>?_)
 refine wa E48_0 s d zeroValue29 fun b6 a w s d=>?_
 refine nl (sn 2 [1] s d rfl rfl fun a s=>?_)
 obtain ⟨rv8,h7,u⟩:=bt u
 refine cR s (U2 h7 d.dom (d.envAt 0 rfl)) (d9 call88 rfl) rfl ?_
 rintro v16 Sv13 w a h14 ⟨p9,k10,c12,rfl,h17,h11⟩ s
 have d:=(d.callN h14 h17).addE (e:=j6 c12 rv8) h11
 refine sv s (j5 (o':=0) runUnderlying29 rfl sizeOf27 rfl rfl rfl) rfl fun a s=>?_
 refine ws [sl p9 k10 rv8] s d 2 rfl rfl rfl sizeOf27 fun a w s d=>?_
 refine nl (wp_seq (sz 4 [2] s d rfl rfl fun a s=>?_))
 obtain ⟨e160,h259,u⟩:=bt u
 refine x9 (fun a w=>∃ c161 p162 k163 Sv164,Sl 25 [(1,pt b5),(2,pt b6)] a∧Wd ⟨w0,S0,[]⟩ Sv164 [.box b5 [sl p162 k163 e160] 29,.box b6 E48_0 29,.row p162 e160.length k163 c161 73 5] [Sq none 0 ([]:List Channel),j6 c161 e160] w) ?_ ?_
 ·refine wp_block ?_
  have d:=d.addE (e:=SlA (α:=Channel) none 0 0 []) M8
  refine u7 (fun sv19 a w=>∃ c110 p111 k112 Sv113,Sl 25 [(1,pt b5),(2,pt b6),(10,sl p111 k112 sv19.1),(11,iv (rv8.length:Int)),(12,iv sv19.2)] a∧Wd ⟨w0,S0,[]⟩ Sv113 [.box b5 [sl p111 k112 sv19.1] 29,.box b6 E48_0 29,.row p111 sv19.1.length k112 c110 73 5] [Sq none 0 ([]:List Channel),j6 c110 sv19.1] w) (rv8,0) h259 ⟨c12,p9,k10,Sv13,wj s d [2,1,0] [0,1]⟩ ?_
  clear h259
  repeat clear u
  rintro sv19 a w tv158 ⟨c110,p111,k112,Sv113,s,d⟩ u hd157
  refine sz0 1 s rfl fun a s=>?_
  refine wp_seq (cd s u rfl (fun u=>?_) fun u=>?_)
  ·refine sk (wp_seq (wp_block (sn0 1 s rfl fun a s=>?_)))
   obtain ⟨x211,h209,u⟩:=bt u
   obtain ⟨b218,q215,c216,h219,h212,h213,h217,h210⟩:=d.elemRV (α:=Channel) 2 rfl 1 rfl h209
   have hsv220:=s
   have hwv221:=d
   subst h219
   have s:=hsv220
   have d:=hwv221
   obtain ⟨_,_,_,_,_,rfl,rfl,rfl,rfl,rfl,⟨p222,n223,k224,rfl,h225⟩⟩:=h210
   obtain rfl:=h225.1
   have d:=d.addE (e:=SlA p222 _ k224 x211.Epochs) h225
   refine sv s (o8 runUnderlying27 sizeOf73 rfl rfl h212.1 h212.2 h213) rfl fun a s=>?_
   refine sv s (Q0 (j:=0) (d.ownAt 2 rfl) rfl isAgg73 sizeOf73 h217 rfl rfl) rfl fun a s=>?_
   refine wa Z2 s d zeroValue73 fun b226 a w s d=>?_
   refine av s rfl rfl fun a s=>?_
   refine ws (C73 x211 p222 k224) s d 0 rfl rfl rfl sizeOf73 fun a w s d=>?_
   refine nl ?_
   obtain ⟨rv228,h227,u⟩:=bt u
   obtain ⟨x235,h233,u⟩:=bt u
   obtain ⟨q239,c240,h236,h237,h241,h234⟩:=d.elemRK (α:=Channel) 3 rfl 2 rfl h233
   obtain ⟨_,_,_,_,_,rfl,rfl,rfl,rfl,rfl,⟨p242,n243,k244,rfl,h245⟩⟩:=h234
   obtain rfl:=h245.1
   have d:=d.addE (e:=SlA p242 _ k244 x235.Epochs) h245
   obtain ⟨l247,h246,u⟩:=bt u
   refine y9 (fun a w=>∃ Sv250 c248,Sl 25 [(1,pt b5),(2,pt b6),(10,sl (ad b218) k112 l247),(11,iv (rv8.length:Int)),(12,iv sv19.2)] a∧Wd ⟨w0,S0,[]⟩ Sv250 [.box b5 [sl (ad b218) k112 l247] 29,.box b6 E48_0 29,.row (ad b218) l247.length k112 c248 73 5] [Sq none 0 ([]:List Channel),j6 c248 l247] w) ?_ ?_
   ·refine h_c [0,1,2] [] d rfl rfl (by kernel_rfl) rfl fun hC d=>?_
    refine gn 4 [0,1,2,3] [1,0] s hC rfl rfl rfl fun a s=>?_
    refine ho 4 rfl ?_
    refine cR s (a2D h227 d.dom (d.envAt 1 rfl)) (d9 call89 rfl) rfl ?_
    rintro v254 Sv251 w a h252 ⟨p229,k230,c232,rfl,h255,h231⟩ s
    have d:=(d.callN h252 h255).addE (e:=j6 c232 rv228.Epochs) h231
    refine h_n [1,2,3] [] d rfl rfl fun hC=>?_
    refine gx s 5 rfl trivial rfl hC runUnderlying27 sizeOf73 rfl rfl h236 h237 fun a s=>?_
    refine ho 6 rfl ?_
    obtain ⟨Sv257,d⟩:=A9 (α:=Epoch) d 0 rfl 0 rfl
    refine a5k (α:=Channel) s d 3 rfl 5 rfl h237 rfl rfl sizeOf73 rfl h246 ⟨_,_,_,_,_,rfl,rfl,rfl,rfl,rfl,⟨_,_,_,rfl,d.envAt 0 rfl⟩⟩ trivial ?_
    intro c248 a w s d
    have h249:=Y0 h246
    try have s:=s.fl 10 rfl h249
    try have s:=s.fl 18 rfl h249
    refine h_n [0,1,2] [] d rfl rfl fun hC=>?_
    refine x8 (by kernel_rfl) ?_
    have d:=d.fixB 1 0 rfl rfl h249
    exact ⟨Sv257,c248,wj s d [1,2,3] [5,0]⟩
   rintro a w ⟨Sv250,c248,s,d⟩
   refine l9 (tn (wp_region_lit (rz0 2 s rfl fun a s=>?_)))
   exact ⟨_,io u,c248,(ad b218),k112,Sv250,wj s d [0,1,2] [0,1]⟩
  refine wp_exit (j4 (j4 (o9 ?_)))
  obtain rfl:=oi u
  have h258:=hd157 _ rfl
  subst h258
  exact tn ⟨c110,p111,k112,Sv113,wj s d [0,1,2] [0,1]⟩
 rintro a w ⟨c161,p162,k163,Sv164,s,d⟩
 refine tn (sn 1 [0] s d rfl rfl fun a s=>?_)
 refine ws [sl p162 k163 e160] s d 1 rfl rfl rfl sizeOf29 fun a w s d=>?_
 refine nl ?_
 obtain rfl:=oi u
 exact wp_ret (a6w s rfl (F7 d 1 rfl rfl isAgg29 sizeOf29 rfl) (d.ret ⟨p162,k163,c161,rfl,(d.outs [2] (by decide) rfl),(d.envAt 1 rfl)⟩))
abbrev a8e (w0:World) (X:List Nat) (r:Inventory):Rd:=fun S w v=>∃ p0_0 k0_0 c0_0,v=.agg #[sl p0_0 k0_0 r.Channels]∧Outs X w0 S w [.row p0_0 r.Channels.length k0_0 c0_0 73 5]∧(j6 c0_0 r.Channels).p S w∧(UqA w0.heap.size c0_0 r.Channels).p S w
theorem a8d {w0 S0 p2 k3 inv1 r} (u:a0P inv1=some r) (hS:Dm S0 w0) (h4:(Sq p2 k3 inv1.Channels).p S0 w0):Ck Tryz.prog 48 #[.agg #[sl p2 k3 inv1.Channels]] w0 S0 [] a8e r:=by
 refine en 25 func48 rfl hS rfl rfl rfl fun a s d=>?_
 have d:=d.addE h4
 refine sr (wb [sl p2 k3 inv1.Channels] s d rfl fun b5 a w s d=>?_)
 refine wa [.slice none ([]:List Channel).length 0] s d zeroValue29 fun b6 a w s d=>?_
 refine nl (sn 2 [1] s d rfl rfl fun a s=>?_)
 obtain ⟨rv8,h7,u⟩:=bt u
 refine cR s (U2 h7 d.dom (d.envAt 0 rfl)) (d9 call88 rfl) rfl ?_
 rintro v16 Sv13 w a h14 ⟨p9,k10,c12,rfl,h17,h11⟩ s
 have d:=(d.callN h14 h17).addE (e:=j6 c12 rv8) h11
 refine sv s (j5 (o':=0) runUnderlying29 rfl sizeOf27 rfl rfl rfl) rfl fun a s=>?_
 refine ws [sl p9 k10 rv8] s d 2 rfl rfl rfl sizeOf27 fun a w s d=>?_
 refine nl (wp_seq (sz 4 [2] s d rfl rfl fun a s=>?_))
 obtain ⟨e159,h257,u⟩:=bt u
 obtain ⟨rs0,d⟩:=d.toCp 0 rfl
 have hmx:=(b3a (d.ownAt 0 rfl)).2
 refine x9 (fun a w=>∃ c160 p161 k162 Sv163 tail rs n,(Sl 25 [(1,pt b5),(2,pt b6)] a∧Wd ⟨w0,S0,[]⟩ Sv163 (.box b5 [sl p161 k162 e159] 29 :: .box b6 [.slice none ([]:List Channel).length 0] 29 :: .row p161 e159.length k162 c160 73 5 :: tail) [j6 c160 rs,CpA rs e159 tail n] w)∧n=e159.length) ?_ ?_
 ·refine wp_block ?_
  refine u7 (fun sv18 a w=>∃ c109 p110 k111 Sv112 tail rs,(Sl 25 [(1,pt b5),(2,pt b6),(10,sl p110 k111 sv18.1),(11,iv (rv8.length:Int)),(12,iv sv18.2)] a∧Wd ⟨w0,S0,[]⟩ Sv112 (.box b5 [sl p110 k111 sv18.1] 29 :: .box b6 [.slice none ([]:List Channel).length 0] 29 :: .row p110 sv18.1.length k111 c109 73 5 :: tail) [j6 c109 rs,CpA rs sv18.1 tail sv18.2.toNat] w)∧sv18.1.length=rv8.length∧0≤sv18.2∧sv18.2≤(rv8.length:Int)) (rv8,0) h257 ⟨c12,p9,k10,Sv13,[],rs0,wj s d [2,1,0] [0,1],rfl,Int.le_refl _,by simp⟩ ?_
  clear h257
  repeat clear u
  rintro sv18 a w tv157 ⟨c109,p110,k111,Sv112,tail,rs,⟨s,d⟩,hlen,hi0,hi1⟩ u hd156
  refine sz0 1 s rfl fun a s=>?_
  refine wp_seq ?_
  refine wp_cond_split (s.ev rfl) (fun hb=>?_) (fun hb=>?_)
  ·have u:=D5 u hb
   refine sk (wp_seq (wp_block (sn0 1 s rfl fun a s=>?_)))
   obtain ⟨x210,h208,u⟩:=bt u
   obtain ⟨b217,q214,c215,h218,h211,h212,h216,h209⟩:=d.elemCp 2 rfl 0 rfl 1 rfl (Nat.le_refl _) h208
   have hsv219:=s
   have hwv220:=d
   subst h218
   have s:=hsv219
   have d:=hwv220
   obtain ⟨_,_,_,_,_,rfl,rfl,rfl,rfl,rfl,⟨p221,n222,k223,rfl,h224⟩⟩:=h209
   obtain rfl:=h224.1
   have d:=d.addE (e:=SlA p221 _ k223 x210.Epochs) h224
   refine sv s (o8 runUnderlying27 sizeOf73 rfl rfl h211.1 h211.2 h212) rfl fun a s=>?_
   refine sv s (Q0 (j:=0) (d.ownAt 2 rfl) rfl isAgg73 sizeOf73 h216 rfl rfl) rfl fun a s=>?_
   refine wa [.string ByteArray.empty,.string ByteArray.empty,.string ByteArray.empty,.string ByteArray.empty,.slice none ([]:List Epoch).length 0] s d zeroValue73 fun b225 a w s d=>?_
   refine av s rfl rfl fun a s=>?_
   refine ws [.string x210.Source.Network,.string x210.Source.Station,.string x210.Source.Location,.string x210.Source.Channel,.slice p221 x210.Epochs.length k223] s d 0 rfl rfl rfl sizeOf73 fun a w s d=>?_
   refine nl ?_
   obtain ⟨rv227,h226,u⟩:=bt u
   obtain ⟨x234,h232,u⟩:=bt u
   obtain rfl:x210=x234:=Option.some.inj (h208.symm.trans h232)
   obtain ⟨l246,h245,u⟩:=bt u
   refine y9 (fun a w=>∃ Sv249 c247 tail rs,Sl 25 [(1,pt b5),(2,pt b6),(10,sl (ad b217) k111 l246),(11,iv (rv8.length:Int)),(12,iv sv18.2)] a∧Wd ⟨w0,S0,[]⟩ Sv249 (.box b5 [sl (ad b217) k111 l246] 29 :: .box b6 [.slice none ([]:List Channel).length 0] 29 :: .row (ad b217) l246.length k111 c247 73 5 :: tail) [j6 c247 rs,CpA rs l246 tail (sv18.2.toNat+1)] w) ?_ ?_
   ·refine h_c [0,1,2] [] d rfl rfl (by kernel_rfl) rfl fun hC d=>?_
    refine gn 4 [0,1,2,3] [1,0] s hC rfl rfl rfl fun a s=>?_
    refine ho 4 rfl ?_
    refine cR s (a2D h226 d.dom (d.envAt 0 rfl)) (d9 call89 rfl) rfl ?_
    rintro v253 Sv250 w a h251 ⟨p228,k229,c231,rfl,h254,h230⟩ s
    have d:=(d.callN h251 h254).addE (e:=j6 c231 rv227.Epochs) h230
    refine h_n [1,2,3] [] d rfl rfl fun hC=>?_
    refine gx s 5 rfl trivial rfl hC runUnderlying27 sizeOf73 rfl rfl h211 h212 fun a s=>?_
    refine ho 6 rfl ?_
    refine b5b s d 0 rfl 2 rfl 3 rfl rfl h212 rfl rfl sizeOf73 h245 trivial fun c247 rs' a w s d=>?_
    have h248:=Y0 h245
    have s:=s.fl 10 rfl h248
    have s:=s.fl 18 rfl h248
    refine h_n [0,1,2] [] d rfl rfl fun hC=>?_
    refine x8 (by kernel_rfl) ?_
    have d:=(d.dropR 0).fixB 0 0 rfl rfl h248
    exact ⟨_,c247,_,rs',s.wk rfl,d.setE _ (a3Z.of [0,1] rfl)⟩
   rintro a w ⟨Sv249,c247,tail,rs,s,d⟩
   refine l9 (tn (wp_region_lit (rz0 2 s rfl fun a s=>?_)))
   have hbd:=(b0J h245).1
   have hw6:w64 (sv18.2+1)=sv18.2+1:=w64_inD (by omega) (by have:=(b3a (d.ownAt 2 rfl));simp only [maxLen] at this;have:=Y0 h245;omega)
   rw [show sv18.2.toNat+1=(w64 (sv18.2+1)).toNat by rw [hw6];omega] at d
   exact ⟨_,io u,c247,(ad b217),k111,Sv249,tail,rs,⟨s.wk rfl,d⟩,(Y0 h245).trans hlen,by show 0≤w64 (sv18.2+1);rw [hw6];omega,by show w64 (sv18.2+1)≤_;rw [hw6];omega⟩
  have u:=D6 u hb
  refine wp_exit (j4 (j4 (o9 ?_)))
  obtain rfl:=oi u
  have h256:=hd156 _ rfl
  subst h256
  exact tn ⟨c109,p110,k111,Sv112,tail,rs,sv18.2.toNat,⟨s.wk rfl,d⟩,by simp only [decide_eq_false_iff_not] at hb;omega⟩
 rintro a w ⟨c160,p161,k162,Sv163,tail,rs,n,⟨s,d⟩,hn⟩
 obtain ⟨Sf,d⟩:=d.uq_of rfl 0 rfl 1 rfl hn
 refine tn (sn 1 [0] s d rfl rfl fun a s=>?_)
 refine ws [sl p161 k162 e159] s d 1 rfl rfl rfl sizeOf29 fun a w s d=>?_
 refine nl ?_
 obtain rfl:=oi u
 exact wp_ret (a6w s rfl (F7 d 1 rfl rfl isAgg29 sizeOf29 rfl) (d.ret ⟨p161,k162,c160,rfl,(d.outs [2] (by decide) rfl),(d.envAt 1 rfl),(d.envAt 0 rfl)⟩))
abbrev J2 (w0:World) (X:List Nat) (r:(Int × Bool)):Rd:=fun S w v=>v=.tuple #[iv r.1,.bool r.2]
theorem R4 {w0 S0 p2 k3 g7 f8 cp9 x1 target5} {cmp6:Channel→SourceID→Option Int} {r} (u:F6 x1 target5 cmp6=some r) (hS:Dm S0 w0) (h4:(Sq p2 k3 x1).p S0 w0) (h10:(a6G Tryz.prog g7 f8 cp9 cmp6).p S0 w0):Ck Tryz.prog 90 #[sl p2 k3 x1,V32 target5,.func (.func g7) f8.toArray cp9.toArray] w0 S0 [] J2 r:=by
 refine en 49 func90 rfl hS rfl rfl rfl fun a s d=>?_
 have d:=(d.addE h4).addE h10
 refine sr (wb (C32 target5) s d rfl fun b11 a w s d=>?_)
 refine rz0 2 s rfl fun a s=>?_
 refine sn0 2 s rfl fun a s=>?_
 obtain ⟨n13,h12,u⟩:=bt u
 refine sv s (q8 rfl h12) rfl fun a s=>?_
 refine nl (sz0 3 s rfl fun a s=>?_)
 refine wp_seq ?_
 obtain ⟨e113,h232,u⟩:=bt u
 refine x9 (fun a w=>∃ Sv114,Sl 49 [(0,sl p2 k3 x1),(2,.func (.func g7) f8.toArray cp9.toArray),(4,pt b11),(8,iv n13),(9,iv e113)] a∧Wd ⟨w0,S0,[]⟩ Sv114 [.box b11 (C32 target5) 32] [Sq p2 k3 x1,a6G Tryz.prog g7 f8 cp9 cmp6] w) ?_ ?_
 ·refine wp_block (u7 (fun sv14 a w=>∃ Sv78,Sl 49 [(0,sl p2 k3 x1),(2,.func (.func g7) f8.toArray cp9.toArray),(4,pt b11),(8,iv n13),(9,iv sv14.1),(10,iv sv14.2)] a∧Wd ⟨w0,S0,[]⟩ Sv78 [.box b11 (C32 target5) 32] [Sq p2 k3 x1,a6G Tryz.prog g7 f8 cp9 cmp6] w) (0,n13) h232 ⟨S0,wj s d [0] [1,0]⟩ ?_)
  clear h232
  repeat clear u
  rintro sv14 a w tv111 ⟨Sv78,s,d⟩ u hd110
  refine wp_seq (sz0 3 s rfl fun a s=>?_)
  refine cd s u rfl (fun u=>?_) fun u=>?_
  ·refine sk (wp_block (sn0 3 s rfl fun a s=>?_))
   refine sv s (b1L runUnderlying3 runUnderlying165 rfl) rfl fun a s=>?_
   obtain ⟨shr148,h147,u⟩:=bt u
   refine sv s (y_shrM rfl rfl h147) rfl fun a s=>?_
   refine sv s (b1L runUnderlying165 runUnderlying3 rfl) rfl fun a s=>?_
   obtain ⟨h150,h149,u⟩:=bt u
   refine sv s (q8 rfl h149) rfl fun a s=>?_
   refine nl (wp_seq ?_)
   obtain ⟨x153,h151,u⟩:=bt u
   obtain ⟨b159,o160,q157,c158,h161,h154,h155,h156,h152⟩:=d.elemV 0 rfl h151
   have hsv162:=s
   have hwv163:=d
   subst h161
   have s:=hsv162
   have d:=hwv163
   obtain ⟨_,_,_,_,_,rfl,rfl,rfl,rfl,rfl,⟨p164,n165,k166,rfl,h167⟩⟩:=h152
   obtain rfl:=h167.1
   have d:=(d.addE (e:=SlA p164 _ k166 x153.Epochs) h167).addE h156
   obtain ⟨rv169,h168,u⟩:=bt u
   refine y9 (fun a w=>∃ Sv170,Sl 49 [(0,sl (some ⟨b159,o160,none⟩) k3 x1),(2,.func (.func g7) f8.toArray cp9.toArray),(4,pt b11),(8,iv n13),(9,iv sv14.1),(10,iv sv14.2),(11,iv h150),(31,.bool (decide (rv169<0)))] a∧Wd ⟨w0,S0,[]⟩ Sv170 [.box b11 (C32 target5) 32] [Sq (some ⟨b159,o160,none⟩) k3 x1,a6G Tryz.prog g7 f8 cp9 cmp6] w) ?_ ?_
   ·refine h_c [0] [0] d rfl rfl (by kernel_rfl) rfl fun hC d=>?_
    refine gn 3 [0,1,2] [] s hC rfl rfl rfl fun a s=>?_
    refine gx s 3 rfl trivial rfl hC runUnderlying27 sizeOf73 rfl rfl h154 h155 fun a s=>?_
    refine gv s 4 rfl rfl hC (fun w hC=>D9 (j:=0) (hC.ceAt 0 rfl) rfl isAgg73 sizeOf73 rfl rfl) fun a s=>?_
    refine gv s 5 rfl rfl hC (fun w hC=>a1a (hC.ownAt 0 rfl) rfl isAgg32 sizeOf32 rfl rfl) fun a s=>?_
    refine ho 6 rfl ?_
    refine q9 s ((d.bE 3 rfl).2 a2a.rfl' d.bdom ⟨_,_,_,_,_,rfl,rfl,rfl,rfl,rfl,⟨_,_,_,rfl,d.bE 1 rfl⟩⟩ ⟨_,_,_,_,rfl,rfl,rfl,rfl,rfl⟩ h168) (a4z (d.bE 3 rfl).1 rfl rfl) trivial rfl rfl ?_
    rintro v174 Sv171 w a h172 rfl s
    have d:=d.callB h172
    refine h_n [0] [0] d rfl rfl fun hC=>?_
    refine gv s 7 rfl rfl hC (fun w hC=>b1M rfl rfl) fun a s=>?_
    refine x8 (by kernel_rfl) ?_
    exact ⟨Sv78,wj s d [0] [2,3]⟩
   rintro a w ⟨Sv170,s,d⟩
   refine tn (x9 (fun a w=>∃ (i179:Int) (j180:Int) (Sv178:_),E8 i179 j180=some tv111∧Sl 49 [(0,sl (some ⟨b159,o160,none⟩) k3 x1),(2,.func (.func g7) f8.toArray cp9.toArray),(4,pt b11),(8,iv n13),(9,iv i179),(10,iv j180)] a∧Wd ⟨w0,S0,[]⟩ Sv178 [.box b11 (C32 target5) 32] [Sq (some ⟨b159,o160,none⟩) k3 x1,a6G Tryz.prog g7 f8 cp9 cmp6] w) ?_ ?_)
   ·refine cd s u rfl (fun u=>?_) fun u=>?_
    ·refine wp_region_lit (rn0 2 s rfl fun a s=>?_)
     obtain ⟨i183,h182,u⟩:=bt u
     refine sv s (q8 rfl h182) rfl fun a s=>?_
     exact nl ⟨i183,sv14.2,Sv170,u,wj s d [0] [0,1]⟩
    refine wp_region_lit (rz0 2 s rfl fun a s=>?_)
    exact ⟨sv14.1,h150,Sv170,u,wj s d [0] [0,1]⟩
   rintro a w ⟨i179,j180,Sv178,u,s,d⟩
   exact l9 (tn ⟨_,io u,Sv178,wj s d [0] [0,1]⟩)
  refine wp_exit (j4 (j4 (o9 ?_)))
  obtain rfl:=oi u
  have h184:=hd110 _ rfl
  subst h184
  exact tn ⟨Sv78,wj s d [0] [0,1]⟩
 rintro a w ⟨Sv114,s,d⟩
 refine tn (wp_seq ?_)
 obtain ⟨c204,hc204,u⟩:=bt u
 refine y9 (fun a w=>∃ Sv205,Sl 49 [(6,iv e113),(7,.bool c204)] a∧Wd ⟨w0,S0,[]⟩ Sv205 [] [] w) ?_ ?_
 ·rcases Bool.eq_false_or_eq_true (decide (e113<n13)) with h206 | h206
  ·have h207:=D5 hc204 h206
   obtain ⟨x210,h208,h207⟩:=O6 h207
   obtain ⟨b216,o217,q214,c215,h218,h211,h212,h213,h209⟩:=d.elemV 0 rfl h208
   have hsv219:=s
   have hwv220:=d
   subst h218
   have s:=hsv219
   have d:=hwv220
   obtain ⟨_,_,_,_,_,rfl,rfl,rfl,rfl,rfl,⟨p221,n222,k223,rfl,h224⟩⟩:=h209
   obtain rfl:=h224.1
   have d:=(d.addE (e:=SlA p221 _ k223 x210.Epochs) h224).addE h213
   obtain ⟨rv226,h225,h207⟩:=O6 h207
   refine h_c [0] [0] d rfl rfl (by kernel_rfl) rfl fun hC d=>?_
   refine gn 5 [0,1,2,3,4] [] s hC rfl rfl rfl fun a s=>?_
   have s:=s.bT 39 rfl h206
   refine gn 3 [5,6,7] [] s hC rfl rfl rfl fun a s=>?_
   refine gx s 8 rfl ⟨_,rfl,rfl⟩ rfl hC runUnderlying27 sizeOf73 rfl rfl h211 h212 fun a s=>?_
   refine gt s 9 rfl ⟨_,rfl,rfl⟩ rfl hC (fun w hC=>D9 (j:=0) (hC.ceAt 0 rfl) rfl isAgg73 sizeOf73 rfl rfl) fun a s=>?_
   refine gt s 10 rfl ⟨_,rfl,rfl⟩ rfl hC (fun w hC=>a1a (hC.ownAt 0 rfl) rfl isAgg32 sizeOf32 rfl rfl) fun a s=>?_
   refine ho 11 rfl ?_
   refine q9 s ((d.bE 3 rfl).2 a2a.rfl' d.bdom ⟨_,_,_,_,_,rfl,rfl,rfl,rfl,rfl,⟨_,_,_,rfl,d.bE 1 rfl⟩⟩ ⟨_,_,_,_,rfl,rfl,rfl,rfl,rfl⟩ h225) (a4z (d.bE 3 rfl).1 rfl rfl) ⟨_,rfl,rfl⟩ rfl rfl ?_
   rintro v230 Sv227 w a h228 rfl s
   have d:=d.callB h228
   refine h_n [0] [0] d rfl rfl fun hC=>?_
   refine gt s 12 rfl ⟨_,rfl,rfl⟩ rfl hC (fun w hC=>y_eql rfl rfl) fun a s=>?_
   refine gT s 13 rfl rfl hC rfl rfl h207 fun a s=>?_
   refine gn 2 [14,15] [] s hC rfl rfl rfl fun a s=>?_
   refine x8 (by kernel_rfl) ?_
   exact ⟨Sv114,wj s d [] []⟩
  have h231:=D6 hc204 h206
  refine h_c [0] [] d rfl rfl (by kernel_rfl) rfl fun hC d=>?_
  refine gn 5 [0,1,2,3,4] [] s hC rfl rfl rfl fun a s=>?_
  have s:=s.bF 39 rfl h206
  refine gn 8 [5,6,7,8,9,10,11,12] [] s hC rfl rfl rfl fun a s=>?_
  refine gF s 13 rfl rfl hC rfl rfl h231 fun a s=>?_
  refine gn 2 [14,15] [] s hC rfl rfl rfl fun a s=>?_
  refine x8 (by kernel_rfl) ?_
  exact ⟨Sv114,wj s d [] []⟩
 rintro a w ⟨Sv205,s,d⟩
 refine tn ?_
 obtain rfl:=oi u
 exact wp_ret (a1p s rfl (H7 rfl) (H7 rfl) (d.ret rfl))
theorem a6P {w0 S0 p2 k3 c1 s5 r} (u:U6 c1 s5=some r) (hS:Dm S0 w0) (h4:(Sq p2 k3 c1.Epochs).p S0 w0):Ck Tryz.prog 91 #[V73 c1 p2 k3,V32 s5] w0 S0 [] J7 r:=by
 refine en 9 func91 rfl hS rfl rfl rfl fun a s d=>?_
 have d:=d.addE h4
 refine sr (wb (C73 c1 p2 k3) s d rfl fun b6 a w s d=>?_)
 refine wb (C32 s5) s d rfl fun b7 a w s d=>?_
 refine rz0 1 s rfl fun a s=>?_
 refine sn 3 [1,0] s d rfl rfl fun a s=>?_
 obtain ⟨rv9,h8,u⟩:=bt u
 refine cV s d (a3S h8 d.bdom) (d9 call92 rfl) rfl fun a w s d=>?_
 refine rz0 1 s rfl fun a s=>?_
 obtain rfl:=oi u
 exact q1 s rfl (d.ret rfl)
theorem a6O (S0:Nat→Prop) (w0:World):(a6G Tryz.prog 91 [] [] U6).p S0 w0:=by
  refine ⟨call91,?_⟩
  rintro S1 w1 hk hS c0 c1 x0 x1 r1 ⟨_,_,_,_,_,rfl,rfl,rfl,rfl,rfl,⟨_,_,_,rfl,e0⟩⟩ h1 hf
  obtain ⟨_,_,_,_,rfl,rfl,rfl,rfl,rfl⟩:=h1
  obtain rfl:=e0.1
  exact a6P hf hS e0
theorem a9a {w0 S0 p2 k3 inv1 s5 r} (u:a3P inv1 s5=some r) (hS:Dm S0 w0) (h4:(Sq p2 k3 inv1.Channels).p S0 w0):Ck Tryz.prog 49 #[.agg #[sl p2 k3 inv1.Channels],V32 s5] w0 S0 [] J2 r:=by
 refine en 12 func49 rfl hS rfl rfl rfl fun a s d=>?_
 have d:=d.addE h4
 refine sr (wb [sl p2 k3 inv1.Channels] s d rfl fun b6 a w s d=>?_)
 refine wb (C32 s5) s d rfl fun b7 a w s d=>?_
 refine rz0 2 s rfl fun a s=>?_
 refine sn 3 [1,0] s d rfl rfl fun a s=>?_
 obtain ⟨rv9,h8,u⟩:=bt u
 refine cV s d (R4 h8 d.bdom (d.bE 0 rfl) (a6O _ _)) (d9 call90 rfl) rfl fun a w s d=>?_
 refine rz0 4 s rfl fun a s=>?_
 obtain rfl:=oi u
 exact wp_ret (a1p s rfl (H7 rfl) (H7 rfl) (d.ret rfl))
theorem U3 {w0 S0 p2 k3 g6 f7 cp8 s1} {f5:Epoch→Option Bool} {r} (u:H6 s1 f5=some r) (hS:Dm S0 w0) (h4:(Sq p2 k3 s1).p S0 w0) (h9:(a5X Tryz.prog g6 f7 cp8 f5).p S0 w0):Ck Tryz.prog 93 #[sl p2 k3 s1,.func (.func g6) f7.toArray cp8.toArray] w0 S0 [] J7 r:=by
 refine en 19 func93 rfl hS rfl rfl rfl fun a s d=>?_
 have d:=(d.addE h4).addE h9
 refine sz0 1 s rfl fun a s=>?_
 refine wp_seq (sz0 3 s rfl fun a s=>?_)
 refine wp_block (u7 (fun sv90 a w=>∃ Sv142,Sl 19 [(0,sl p2 k3 s1),(1,.func (.func g6) f7.toArray cp8.toArray),(7,iv (s1.length:Int)),(8,iv sv90)] a∧Wd ⟨w0,S0,[]⟩ Sv142 [] [Sq p2 k3 s1,a5X Tryz.prog g6 f7 cp8 f5] w) 0 u ⟨S0,wj s d [] [1,0]⟩ ?_)
 repeat clear u
 rintro sv90 a w tv169 ⟨Sv142,s,d⟩ u hd168
 refine sz0 1 s rfl fun a s=>?_
 refine wp_seq (cd s u rfl (fun u=>?_) fun u=>?_)
 ·refine sk (wp_seq (wp_block (sz0 2 s rfl fun a s=>?_)))
  refine sn0 3 s rfl fun a s=>?_
  obtain ⟨x200,h198,u⟩:=bt u
  obtain ⟨b206,o207,q204,c205,h208,h201,h202,h203,h199⟩:=d.elemV 0 rfl h198
  have hsv209:=s
  have hwv210:=d
  subst h208
  have s:=hsv209
  have d:=hwv210
  obtain ⟨_,_,_,_,_,_,_,_,rfl,rfl,rfl,rfl,rfl,rfl,rfl,rfl,⟨p211,n212,k213,rfl,h214⟩⟩:=h199
  obtain rfl:=h214.1
  have d:=(d.addE (e:=SlA p211 _ k213 x200.Response.Stages) h214).addE h203
  refine sv s (o8 runUnderlying71 sizeOf41 rfl rfl h201.1 h201.2 h202) rfl fun a s=>?_
  refine sv s (D9 (j:=0) (d.ceAt 0 rfl) rfl isAgg41 sizeOf41 rfl rfl) rfl fun a s=>?_
  obtain ⟨rv216,h215,u⟩:=bt u
  refine q9 s ((d.bE 3 rfl).2 a2a.rfl' d.bdom ⟨_,_,_,_,_,_,_,_,rfl,rfl,rfl,rfl,rfl,rfl,rfl,rfl,⟨_,_,_,rfl,d.bE 1 rfl⟩⟩ h215) (a4z (d.bE 3 rfl).1 rfl rfl) trivial rfl rfl ?_
  rintro v220 Sv217 w a h218 rfl s
  have d:=d.callB h218
  refine nl (cd s u rfl (fun u=>?_) fun u=>?_)
  ·refine sz0 2 s rfl fun a s=>?_
   obtain rfl:=oi u
   have h223:=hd168 _ rfl
   subst h223
   exact wp_ret (r9 (j3 (j3 (r9 (j3 (rt s rfl (d.ret rfl)))))))
  refine wp_skip (l9 (tn (wp_region_lit (rz0 2 s rfl fun a s=>?_))))
  exact ⟨_,io u,Sv142,wj s d [] [2,3]⟩
 obtain ⟨rv224,u,h225⟩:=Y7 u
 have h225:=(hd168 _ h225.symm).symm
 subst h225
 refine wp_exit (j4 (j4 (o9 (tn (sz0 1 s rfl fun a s=>?_)))))
 obtain rfl:=oi u
 exact q1 s rfl (d.ret rfl)
theorem a7R {w0 S0 p2 k3 b6 e1 x5 r} (u:a2v e1 x5=some r) (hS:Dm S0 w0) (h4:(Sq p2 k3 e1.Response.Stages).p S0 w0) (h7:(CeA b6 0 [iv x5]).p S0 w0):Ck Tryz.prog 94 #[V41 e1 p2 k3,pt b6] w0 S0 [] l7 r:=by
 refine en 8 func94 rfl hS rfl rfl rfl fun a s d=>?_
 have d:=(d.addE h4).addE h7
 refine sr (wb (C41 e1 p2 k3) s d rfl fun b8 a w s d=>?_)
 refine rz0 1 s rfl fun a s=>?_
 refine sn 2 [0] s d rfl rfl fun a s=>?_
 refine sv s (F5 (j:=0) (d.ceAt 0 rfl) rfl isAgg3 rfl) rfl fun a s=>?_
 refine rz0 2 s rfl fun a s=>?_
 obtain rfl:=oi u
 exact q1 s rfl (d.ret rfl)
theorem a7Q {S0 w0 b6 x5} (h7:(CeA b6 0 [iv x5]).p S0 w0):(a5X Tryz.prog 94 [] [pt b6] (fun y0=>a2v y0 x5)).p S0 w0:=by
  refine ⟨call94,?_⟩
  rintro S1 w1 hk hS c0 x0 r1 ⟨_,_,_,_,_,_,_,_,rfl,rfl,rfl,rfl,rfl,rfl,rfl,rfl,⟨_,_,_,rfl,e0⟩⟩ hf
  obtain rfl:=e0.1
  exact a7R hf hS e0 (Asrt.mono _ hk h7)
theorem a9V {w0 S0 p2 k3 l1 from5 r} (u:a6x l1 from5=some r) (hS:Dm S0 w0) (h4:(Sq p2 k3 l1).p S0 w0):Ck Tryz.prog 50 #[sl p2 k3 l1,iv from5] w0 S0 [] J7 r:=by
 refine en 8 func50 rfl hS rfl rfl rfl fun a s d=>?_
 have d:=d.addE h4
 refine sr (wb [iv from5] s d rfl fun b6 a w s d=>?_)
 refine rz0 1 s rfl fun a s=>?_
 refine sn0 1 s rfl fun a s=>?_
 refine sv s (b0Z (vs:=#[]) (us:=#[pt b6]) rfl rfl) rfl fun a s=>?_
 obtain ⟨rv8,h7,u⟩:=bt u
 refine cV s d (U3 h7 d.bdom (d.bE 0 rfl) (a7Q (d.bBox 0 rfl))) (d9 call93 rfl) rfl fun a w s d=>?_
 refine rz0 1 s rfl fun a s=>?_
 obtain rfl:=oi u
 exact q1 s rfl (d.ret rfl)
theorem a2y {w0 S0 p2 k3 c4 s1 i6 j7 r} (u:Q5 s1 i6 j7=some r) (hS:Dm S0 w0) (hin:Ins S0 w0 [.row p2 s1.length k3 c4 41 8]) (h5:(j6 c4 s1).p S0 w0):Ck Tryz.prog 51 #[sl p2 k3 s1,iv i6,iv j7] w0 S0 (H8 [.row p2 s1.length k3 c4 41 8]) H9 r:=by
 refine enI 33 func51 rfl hS hin rfl rfl rfl fun a s d=>?_
 have d:=(d.addE h5).addE (e:=a2b s1.length s1) a5q
 refine sz0 1 s rfl fun a s=>?_
 refine sn0 5 s rfl fun a s=>?_
 obtain ⟨l12,h8,u⟩:=bt u
 obtain ⟨p10,k11,h9⟩:=b0H (α:=Epoch) d 0 rfl h8
 refine sv s (b1a runUnderlying71 sizeOf41 rfl ⟨_,rfl⟩ rfl rfl h9) rfl fun a s=>?_
 refine nl (wp_seq (sz0 3 s rfl fun a s=>?_))
 refine wp_cond_split (s.ev rfl) (fun h14=>?_) (fun h14=>?_)
 ·have u:=D5 u h14
  refine sz0 2 s rfl fun a s=>?_
  obtain rfl:=oi u
  exact wp_ret (j3 (rt s rfl (d.ret ⟨p2,k3,c4,rfl,(d.outs [0] (by decide) rfl),(d.envAt 1 rfl)⟩)))
 have u:=D6 u h14
 refine sk (sn0 2 s rfl fun a s=>?_)
 obtain ⟨oldlen16,h15,u⟩:=bt u
 refine sv s (q8 rfl h15) rfl fun a s=>?_
 refine nl (wp_seq ?_)
 obtain ⟨l19,h17,u⟩:=bt u
 have h18:=b0G (α:=Epoch) d 0 rfl h17
 obtain ⟨l22,h20,u⟩:=bt u
 obtain ⟨p23,k24,h21⟩:=U7 (α:=Epoch) d 0 rfl h20
 obtain ⟨l27,h25,u⟩:=bt u
 refine y9 (fun a w=>∃ Sv28 c26,Sl 33 [(0,sl p2 k3 (l19 ++ l22)),(7,iv oldlen16)] a∧Wd ⟨w0,S0,H8 [.row p2 s1.length k3 c4 41 8]⟩ Sv28 [.row p2 l27.length k3 c26 41 8] [j6 c26 l27] w) ?_ ?_
 ·refine h_c [] [] d rfl rfl (by kernel_rfl) rfl fun hC d=>?_
  refine gn 2 [0,1] [] s hC rfl rfl rfl fun a s=>?_
  refine gv s 2 rfl rfl hC (fun w hC=>R9 runUnderlying71 sizeOf41 rfl (by exact rfl) ⟨_,rfl⟩ h18) fun a s=>?_
  refine gn 2 [3,4] [] s hC rfl rfl rfl fun a s=>?_
  refine gv s 5 rfl rfl hC (fun w hC=>R9 runUnderlying71 sizeOf41 rfl ⟨_,rfl⟩ (by exact rfl) h21) fun a s=>?_
  refine ho 6 rfl ?_
  refine b0V (α:=Epoch) s d 0 rfl 1 rfl a5I h8 h14 h17 h20 h21 rfl rfl h25 rfl trivial ?_
  intro c26 a w s d
  refine h_n [] [] d rfl rfl fun hC=>?_
  refine gv s 7 rfl rfl hC (fun w hC=>M7 rfl) fun a s=>?_
  refine x8 (by kernel_rfl) ?_
  exact ⟨S0,c26,wj s d [0] [0]⟩
 rintro a w ⟨Sv28,c26,s,d⟩
 refine tn (sn0 4 s rfl fun a s=>?_)
 obtain ⟨l31,h29,u⟩:=bt u
 obtain ⟨p32,k33,h30⟩:=U7 (α:=Epoch) d 0 rfl h29
 refine sv s (R9 runUnderlying71 sizeOf41 rfl ⟨_,rfl⟩ ⟨_,rfl⟩ h30) rfl fun a s=>?_
 obtain ⟨l34,h35,u⟩:=bt u
 obtain ⟨l39,h38,u⟩:=bt u
 refine a9f (α:=Epoch) (z0:=((⟨0,0,(⟨0,0⟩:Rate),(⟨0,0,0⟩:Position),(⟨([]:List Stage)⟩:Response)⟩:Epoch):Epoch)) s d 0 rfl 0 rfl a5I ⟨_,_,_,_,_,_,_,_,rfl,rfl,rfl,rfl,rfl,rfl,rfl,rfl,⟨none,0,0,rfl,M8⟩⟩ h29 h30 rfl trivial ?_
 intro c36 a w s d
 rw [Option.some.inj h35] at d
 obtain ⟨d,_⟩:=b0U d 0 rfl 0 rfl h38
 have s:=s.fl 0 rfl (b0P h38)
 refine nl (sz0 2 s rfl fun a s=>?_)
 obtain rfl:=oi u
 exact q1 s rfl (d.ret ⟨p2,k3,(c36.take (l39.length * 8)),rfl,(d.outs [0] (by decide) rfl),(d.envAt 0 rfl)⟩)
theorem a1b {w0 S0 p2 k3 g6 f7 cp8 s1} {f5:Epoch→Option Bool} {r} (u:I6 s1 f5=some r) (hS:Dm S0 w0) (h4:(Sq p2 k3 s1).p S0 w0) (h9:(a5X Tryz.prog g6 f7 cp8 f5).p S0 w0):Ck Tryz.prog 95 #[sl p2 k3 s1,.func (.func g6) f7.toArray cp8.toArray] w0 S0 [] l7 r:=by
 refine en 9 func95 rfl hS rfl rfl rfl fun a s d=>?_
 have d:=(d.addE h4).addE h9
 refine sz0 1 s rfl fun a s=>?_
 refine sn0 2 s rfl fun a s=>?_
 obtain ⟨rv11,h10,u⟩:=bt u
 refine cV s d (U3 h10 d.bdom (d.bE 1 rfl) (d.bE 0 rfl)) (d9 call93 rfl) rfl fun a w s d=>?_
 refine rz0 2 s rfl fun a s=>?_
 obtain rfl:=oi u
 exact q1 s rfl (d.ret rfl)
theorem a7k {w0 S0 p2 k3 b6 p7 k8 x1 x5 r} (u:a1W x1 x5=some r) (hS:Dm S0 w0) (h4:(Sq p2 k3 x1.Response.Stages).p S0 w0) (h9:(CeA b6 0 (C41 x5 p7 k8)).p S0 w0) (h10:(Sq p7 k8 x5.Response.Stages).p S0 w0):Ck Tryz.prog 96 #[V41 x1 p2 k3,pt b6] w0 S0 [] l7 r:=by
 refine en 15 func96 rfl hS rfl rfl rfl fun a s d=>?_
 have d:=((d.addE h4).addE h9).addE h10
 refine sr (wb (C41 x1 p2 k3) s d rfl fun b11 a w s d=>?_)
 refine rz0 1 s rfl fun a s=>?_
 refine sn 3 [0] s d rfl rfl fun a s=>?_
 refine sv s (F5 (j:=0) (d.ceAt 1 rfl) rfl isAgg3 rfl) rfl fun a s=>?_
 refine rn 4 [0] s d rfl rfl fun a s=>?_
 refine sv s (F5 (j:=1) (d.ceAt 1 rfl) rfl isAgg3 rfl) rfl fun a s=>?_
 refine rz0 3 s rfl fun a s=>?_
 obtain rfl:=oi u
 exact q1 s rfl (d.ret rfl)
theorem a7j {S0 w0 b6 p7 k8 x5} (h9:(CeA b6 0 (C41 x5 p7 k8)).p S0 w0) (h10:(Sq p7 k8 x5.Response.Stages).p S0 w0):(a5X Tryz.prog 96 [] [pt b6] (fun y0=>a1W y0 x5)).p S0 w0:=by
  refine ⟨call96,?_⟩
  rintro S1 w1 hk hS c0 x0 r1 ⟨_,_,_,_,_,_,_,_,rfl,rfl,rfl,rfl,rfl,rfl,rfl,rfl,⟨_,_,_,rfl,e0⟩⟩ hf
  obtain rfl:=e0.1
  exact a7k hf hS e0 (Asrt.mono _ hk h9) (Asrt.mono _ hk h10)
end Go.Proofs.YteanekphncdhiaaGreat.Wk
namespace Go.Proofs
open Go Go.Shelf Go.RowKit Go.Lib Go.Sort
def Tryz.sort98_ren:Go.Shelf.Ren:=⟨fun | 6=>98 | 15=>132 | 14=>131 | 28=>157 | 29=>158 | 20=>149 | 21=>150 | 22=>151 | 23=>152 | 24=>153 | 25=>154 | 26=>155 | 27=>156 | 46=>183 | 47=>184 | 48=>185 | 49=>186 | 50=>187 | 57=>196 | n=>n,fun | 22=>71 | 24=>41 | 25=>147 | 3=>3 | 39=>165 | 0=>0 | 53=>188 | 55=>190 | 4=>4 | 46=>182 | 45=>181 | 50=>101 | 5=>5 | 9=>9 | 66=>204 | 70=>208 | 76=>216 | 77=>127 | n=>n,fun | n=>n⟩
theorem Tryz.sort98:Go.Proofs.SlLaysF0.n6 Tryz.prog Tryz.sort98_ren where
  mixed:=by kernel_rfl
  f6:=⟨Tryz.f98.name,by decide,Tryz.func98.trans (congrArg some (by kernel_rfl))⟩
  f14:=⟨Tryz.f131.name,by decide,Tryz.func131.trans (congrArg some (by kernel_rfl))⟩
  f15:=Tryz.func132.trans (congrArg some (by kernel_rfl))
  f20:=⟨Tryz.f149.name,by decide,Tryz.func149.trans (congrArg some (by kernel_rfl))⟩
  f21:=⟨Tryz.f150.name,by decide,Tryz.func150.trans (congrArg some (by kernel_rfl))⟩
  f22:=⟨Tryz.f151.name,by decide,Tryz.func151.trans (congrArg some (by kernel_rfl))⟩
  f23:=⟨Tryz.f152.name,by decide,Tryz.func152.trans (congrArg some (by kernel_rfl))⟩
  f24:=⟨Tryz.f153.name,by decide,Tryz.func153.trans (congrArg some (by kernel_rfl))⟩
  f25:=⟨Tryz.f154.name,by decide,Tryz.func154.trans (congrArg some (by kernel_rfl))⟩
  f26:=⟨Tryz.f155.name,by decide,Tryz.func155.trans (congrArg some (by kernel_rfl))⟩
  f27:=⟨Tryz.f156.name,by decide,Tryz.func156.trans (congrArg some (by kernel_rfl))⟩
  f28:=Tryz.func157.trans (congrArg some (by kernel_rfl))
  f29:=Tryz.func158.trans (congrArg some (by kernel_rfl))
  f46:=⟨Tryz.f183.name,by decide,Tryz.func183.trans (congrArg some (by kernel_rfl))⟩
  f47:=Tryz.func184.trans (congrArg some (by kernel_rfl))
  f48:=Tryz.func185.trans (congrArg some (by kernel_rfl))
  f49:=⟨Tryz.f186.name,by decide,Tryz.func186.trans (congrArg some (by kernel_rfl))⟩
  f50:=⟨Tryz.f187.name,by decide,Tryz.func187.trans (congrArg some (by kernel_rfl))⟩
  f57:=⟨Tryz.f196.name,by decide,Tryz.func196.trans (congrArg some (by kernel_rfl))⟩
  t0:=Tryz.underlying0
  a0:=Tryz.isAgg0
  z0:=Tryz.sizeOf0
  v0:=Tryz.zeroValue0
  t3:=Tryz.underlying3
  a3:=Tryz.isAgg3
  z3:=Tryz.sizeOf3
  v3:=Tryz.zeroValue3
  t4:=Tryz.underlying4
  a4:=Tryz.isAgg4
  z4:=Tryz.sizeOf4
  v4:=Tryz.zeroValue4
  t5:=Tryz.underlying5
  a5:=Tryz.isAgg5
  z5:=Tryz.sizeOf5
  v5:=Tryz.zeroValue5
  t9:=Tryz.underlying9
  a9:=Tryz.isAgg9
  z9:=Tryz.sizeOf9
  v9:=Tryz.zeroValue9
  t22:=Tryz.underlying71
  a22:=Tryz.isAgg71
  z22:=Tryz.sizeOf71
  v22:=Tryz.zeroValue71
  t25:=Tryz.underlying147
  a25:=Tryz.isAgg147
  z25:=Tryz.sizeOf147
  v25:=Tryz.zeroValue147
  t39:=Tryz.underlying165
  a39:=Tryz.isAgg165
  z39:=Tryz.sizeOf165
  v39:=Tryz.zeroValue165
  t45:=Tryz.underlying181
  a45:=Tryz.isAgg181
  z45:=Tryz.sizeOf181
  v45:=Tryz.zeroValue181
  t46:=Tryz.underlying182
  a46:=Tryz.isAgg182
  z46:=Tryz.sizeOf182
  v46:=Tryz.zeroValue182
  t50:=Tryz.underlying101
  a50:=Tryz.isAgg101
  z50:=Tryz.sizeOf101
  v50:=Tryz.zeroValue101
  t53:=Tryz.underlying188
  a53:=Tryz.isAgg188
  z53:=Tryz.sizeOf188
  v53:=Tryz.zeroValue188
  t55:=Tryz.underlying190
  a55:=Tryz.isAgg190
  z55:=Tryz.sizeOf190
  v55:=Tryz.zeroValue190
  t66:=Tryz.underlying204
  a66:=Tryz.isAgg204
  z66:=Tryz.sizeOf204
  v66:=Tryz.zeroValue204
  t70:=Tryz.underlying208
  a70:=Tryz.isAgg208
  z70:=Tryz.sizeOf208
  v70:=Tryz.zeroValue208
  t76:=Tryz.underlying216
  a76:=Tryz.isAgg216
  z76:=Tryz.sizeOf216
  v76:=Tryz.zeroValue216
  t77:=Tryz.underlying127
  a77:=Tryz.isAgg127
  z77:=Tryz.sizeOf127
  v77:=Tryz.zeroValue127
end Go.Proofs
namespace Go.Proofs.YteanekphncdhiaaGreat.Wk
open Go Go.RowKit Go.Proofs Go.Proofs.YteanekphncdhiaaGreat.Sh Go.Proofs.Tryz
set_option linter.unusedVariables false
set_option linter.unusedSimpArgs false
abbrev a1Z (w0:World) (X:List Nat) (p2:Option Addr) (k3:Nat) (x1:(List Epoch)) (r:(List Epoch)):(Nat→Prop)→World→Value→Prop:=fun S w v=>∃ ck_0,v=.tuple #[]∧Outs X w0 S w [.row p2 r.length k3 ck_0 41 8]∧(j6 ck_0 r).p S w∧(a2b x1.length r).p S w
theorem a1Y {w0 S0 p2 k3 c4 g7 cp9 x1} {cmp6:Epoch→Epoch→Option Int} {r} (u:L8 x1 cmp6=some r) (hS:Dm S0 w0) (hin:Ins S0 w0 [.row p2 x1.length k3 c4 41 8]) (h5:(j6 c4 x1).p S0 w0) (h10:(a6G Tryz.prog g7 [] cp9 cmp6).p S0 w0):Calls Tryz.prog 98 #[sl p2 k3 x1,.func (.func g7) #[] cp9.toArray] w0 (Ret (H8 [.row p2 x1.length k3 c4 41 8]) w0 S0 (a1Z w0 (H8 [.row p2 x1.length k3 c4 41 8]) p2 k3 x1 r)):=by
 exact sort_tot (α:=Epoch) (T:=41) Tryz.sort98 isAgg41 sizeOf41 (fun _=>rfl) (by decide) u hS hin h5 h10
theorem a7m {w0 S0 p2 k3 p6 k7 a1 b5 r} (u:V7 a1 b5=some r) (hS:Dm S0 w0) (h4:(Sq p2 k3 a1.Response.Stages).p S0 w0) (h8:(Sq p6 k7 b5.Response.Stages).p S0 w0):Ck Tryz.prog 99 #[V41 a1 p2 k3,V41 b5 p6 k7] w0 S0 [] J7 r:=by
 refine en 10 func99 rfl hS rfl rfl rfl fun a s d=>?_
 have d:=(d.addE h4).addE h8
 refine sr (wb (C41 a1 p2 k3) s d rfl fun b9 a w s d=>?_)
 refine wb (C41 b5 p6 k7) s d rfl fun b10 a w s d=>?_
 refine rz0 1 s rfl fun a s=>?_
 refine sn 5 [1,0] s d rfl rfl fun a s=>?_
 obtain ⟨x12,h11,u⟩:=bt u
 refine sv s (q8 rfl h11) rfl fun a s=>?_
 refine nl ?_
 obtain rfl:=oi u
 exact q1 s rfl (d.ret rfl)
theorem a7l (S0:Nat→Prop) (w0:World):(a6G Tryz.prog 99 [] [] V7).p S0 w0:=by
  refine ⟨call99,?_⟩
  rintro S1 w1 hk hS c0 c1 x0 x1 r1 ⟨_,_,_,_,_,_,_,_,rfl,rfl,rfl,rfl,rfl,rfl,rfl,rfl,⟨_,_,_,rfl,e0⟩⟩ h1 hf
  obtain ⟨_,_,_,_,_,_,_,_,rfl,rfl,rfl,rfl,rfl,rfl,rfl,rfl,⟨_,_,_,rfl,e1⟩⟩:=h1
  obtain rfl:=e0.1
  obtain rfl:=e1.1
  exact a7m hf hS e0 e1
abbrev a9z (w0:World) (X:List Nat) (r:((List Epoch) × Bool)):Rd:=fun S w v=>∃ p0_0 k0_0 c0_0,v=.tuple #[sl p0_0 k0_0 r.1,.bool r.2]∧Outs X w0 S w [.row p0_0 r.1.length k0_0 c0_0 41 8]∧(j6 c0_0 r.1).p S w
theorem a9y {w0 S0 p2 k3 c4 p7 k8 l1 e6 r} (u:a4w l1 e6=some r) (hS:Dm S0 w0) (hin:Ins S0 w0 [.row p2 l1.length k3 c4 41 8]) (h5:(j6 c4 l1).p S0 w0) (h9:(Sq p7 k8 e6.Response.Stages).p S0 w0):Ck Tryz.prog 52 #[sl p2 k3 l1,V41 e6 p7 k8] w0 S0 (H8 [.row p2 l1.length k3 c4 41 8]) a9z r:=by
 refine enI 17 func52 rfl hS hin rfl rfl rfl fun a s d=>?_
 have d:=((d.addE h5).addE (e:=a2b l1.length l1) a5q).addE h9
 refine sr (wb (C41 e6 p7 k8) s d rfl fun b10 a w s d=>?_)
 refine rz0 2 s rfl fun a s=>?_
 refine wp_seq (sn0 1 s rfl fun a s=>?_)
 refine sv s (b0Z (vs:=#[]) (us:=#[pt b10]) rfl rfl) rfl fun a s=>?_
 obtain ⟨rv12,h11,u⟩:=bt u
 refine cV s d (a1b h11 d.bdom (d.bRow 1 rfl 2 rfl) (a7j (d.bBox 0 rfl) (d.bE 0 rfl))) (d9 call95 rfl) rfl fun a w s d=>?_
 refine nl (cd s u rfl (fun u=>?_) fun u=>?_)
 ·refine sz0 2 s rfl fun a s=>?_
  obtain rfl:=oi u
  have d:=d.nilRow Epoch 41
  exact wp_ret (j3 (a1p s rfl (H7 rfl) (H7 rfl) (d.ret ⟨none,0,[],rfl,(d.outs [0] (by decide) rfl),(d.envAt 0 rfl)⟩)))
 refine sk (sn 2 [0] s d rfl rfl fun a s=>?_)
 obtain ⟨rv22,h21,u⟩:=bt u
 refine cR s (a3x h21 d.dom (d.envAt 0 rfl)) (d9 call97 rfl) rfl ?_
 rintro v30 Sv27 w a h28 ⟨p23,k24,c26,rfl,h31,h25⟩ s
 have d:=(d.callN h28 h31).addE (e:=j6 c26 rv22.Response.Stages) h25
 obtain ⟨Sv35,d⟩:=A9 (α:=Stage) d 0 rfl 0 rfl
 refine y7 (α:=Epoch) (vs:=[V41 rv22 p23 k24]) (cs:=(C41 rv22 p23 k24)) (xs:=([rv22]:List Epoch)) s d a5I rfl rfl rfl rfl rfl rfl ⟨⟨_,_,_,_,_,_,_,_,rfl,rfl,rfl,rfl,rfl,rfl,rfl,rfl,⟨_,_,_,rfl,d.envAt 0 rfl⟩⟩,rfl⟩ rfl trivial rfl fun b34 a w s d=>?_
 obtain ⟨l37,h36,u⟩:=bt u
 refine I4 (α:=Epoch) s d a5I 2 rfl rfl rfl 5 rfl 0 rfl 0 rfl h36 rfl trivial ?_
 intro p38 k39 c40 a w s d
 refine rz0 1 s rfl fun a s=>?_
 refine sn0 1 s rfl fun a s=>?_
 obtain ⟨rv42,h41,u⟩:=bt u
 refine cR s (a1Y h41 d.dom (d.ins [2] (by decide) rfl) (d.envAt 0 rfl) (a7l _ _)) (d9 call98 rfl) rfl ?_
 rintro v49 Sv46 w a h47 ⟨c43,rfl,h50,h44,h45⟩ s
 have d:=(d.callO [2] [0,1] (by decide) rfl h47 h50).addE (e:=j6 c43 rv42) h44
 have h52:=h45
 have h53:=Eq.symm h52
 try have s:=s.fl 0 rfl h53
 try have s:=s.fl 14 rfl h53
 refine nl (sz0 3 s rfl fun a s=>?_)
 obtain rfl:=oi u
 exact wp_ret (a1p s rfl (H7 rfl) (H7 rfl) (d.ret ⟨p38,k39,c43,rfl,(d.outs [0] (by decide) rfl),(d.envAt 0 rfl)⟩))
theorem a6E {w0 S0 p2 k3 c4 s1 i6 j7 r} (u:J9 s1 i6 j7=some r) (hS:Dm S0 w0) (hin:Ins S0 w0 [.row p2 s1.length k3 c4 73 5]) (h5:(j6 c4 s1).p S0 w0):Ck Tryz.prog 53 #[sl p2 k3 s1,iv i6,iv j7] w0 S0 (H8 [.row p2 s1.length k3 c4 73 5]) G5 r:=by
 refine enI 33 func53 rfl hS hin rfl rfl rfl fun a s d=>?_
 have d:=(d.addE h5).addE (e:=a2b s1.length s1) a5q
 refine sz0 1 s rfl fun a s=>?_
 refine sn0 5 s rfl fun a s=>?_
 obtain ⟨l12,h8,u⟩:=bt u
 obtain ⟨p10,k11,h9⟩:=b0H (α:=Channel) d 0 rfl h8
 refine sv s (b1a runUnderlying27 sizeOf73 rfl ⟨_,rfl⟩ rfl rfl h9) rfl fun a s=>?_
 refine nl (wp_seq (sz0 3 s rfl fun a s=>?_))
 refine wp_cond_split (s.ev rfl) (fun h14=>?_) (fun h14=>?_)
 ·have u:=D5 u h14
  refine sz0 2 s rfl fun a s=>?_
  obtain rfl:=oi u
  exact wp_ret (j3 (rt s rfl (d.ret ⟨p2,k3,c4,rfl,(d.outs [0] (by decide) rfl),(d.envAt 1 rfl)⟩)))
 have u:=D6 u h14
 refine sk (sn0 2 s rfl fun a s=>?_)
 obtain ⟨oldlen16,h15,u⟩:=bt u
 refine sv s (q8 rfl h15) rfl fun a s=>?_
 refine nl (wp_seq ?_)
 obtain ⟨l19,h17,u⟩:=bt u
 have h18:=b0G (α:=Channel) d 0 rfl h17
 obtain ⟨l22,h20,u⟩:=bt u
 obtain ⟨p23,k24,h21⟩:=U7 (α:=Channel) d 0 rfl h20
 obtain ⟨l27,h25,u⟩:=bt u
 refine y9 (fun a w=>∃ Sv28 c26,Sl 33 [(0,sl p2 k3 (l19 ++ l22)),(7,iv oldlen16)] a∧Wd ⟨w0,S0,H8 [.row p2 s1.length k3 c4 73 5]⟩ Sv28 [.row p2 l27.length k3 c26 73 5] [j6 c26 l27] w) ?_ ?_
 ·refine h_c [] [] d rfl rfl (by kernel_rfl) rfl fun hC d=>?_
  refine gn 2 [0,1] [] s hC rfl rfl rfl fun a s=>?_
  refine gv s 2 rfl rfl hC (fun w hC=>R9 runUnderlying27 sizeOf73 rfl (by exact rfl) ⟨_,rfl⟩ h18) fun a s=>?_
  refine gn 2 [3,4] [] s hC rfl rfl rfl fun a s=>?_
  refine gv s 5 rfl rfl hC (fun w hC=>R9 runUnderlying27 sizeOf73 rfl ⟨_,rfl⟩ (by exact rfl) h21) fun a s=>?_
  refine ho 6 rfl ?_
  refine b0V (α:=Channel) s d 0 rfl 1 rfl a6R h8 h14 h17 h20 h21 rfl rfl h25 rfl trivial ?_
  intro c26 a w s d
  refine h_n [] [] d rfl rfl fun hC=>?_
  refine gv s 7 rfl rfl hC (fun w hC=>M7 rfl) fun a s=>?_
  refine x8 (by kernel_rfl) ?_
  exact ⟨S0,c26,wj s d [0] [0]⟩
 rintro a w ⟨Sv28,c26,s,d⟩
 refine tn (sn0 4 s rfl fun a s=>?_)
 obtain ⟨l31,h29,u⟩:=bt u
 obtain ⟨p32,k33,h30⟩:=U7 (α:=Channel) d 0 rfl h29
 refine sv s (R9 runUnderlying27 sizeOf73 rfl ⟨_,rfl⟩ ⟨_,rfl⟩ h30) rfl fun a s=>?_
 obtain ⟨l34,h35,u⟩:=bt u
 obtain ⟨l39,h38,u⟩:=bt u
 refine a9f (α:=Channel) (z0:=((⟨(⟨ByteArray.empty,ByteArray.empty,ByteArray.empty,ByteArray.empty⟩:SourceID),([]:List Epoch)⟩:Channel):Channel)) s d 0 rfl 0 rfl a6R ⟨_,_,_,_,_,rfl,rfl,rfl,rfl,rfl,⟨none,0,0,rfl,M8⟩⟩ h29 h30 rfl trivial ?_
 intro c36 a w s d
 rw [Option.some.inj h35] at d
 obtain ⟨d,_⟩:=b0U d 0 rfl 0 rfl h38
 have s:=s.fl 0 rfl (b0P h38)
 refine nl (sz0 2 s rfl fun a s=>?_)
 obtain rfl:=oi u
 exact q1 s rfl (d.ret ⟨p2,k3,(c36.take (l39.length * 5)),rfl,(d.outs [0] (by decide) rfl),(d.envAt 0 rfl)⟩)
noncomputable def delR (s1:List ChanR) (i6 j7:Int):Option (List ChanR):=delG zR s1 i6 j7
abbrev delR_rd (w0:World) (X:List Nat) (r:(List ChanR)):Rd:=fun S w v=>∃ p0_0 k0_0 c0_0,v=sl p0_0 k0_0 r∧Outs X w0 S w [.row p0_0 r.length k0_0 c0_0 73 5]∧(j6 c0_0 r).p S w
theorem delR_ok {w0 S0 p2 k3 c4} {s1:List ChanR} {i6 j7 r} (u:delR s1 i6 j7=some r) (hS:Dm S0 w0) (hin:Ins S0 w0 [.row p2 s1.length k3 c4 73 5]) (h5:(j6 c4 s1).p S0 w0):Ck Tryz.prog 53 #[sl p2 k3 s1,iv i6,iv j7] w0 S0 (H8 [.row p2 s1.length k3 c4 73 5]) delR_rd r:=by
 refine enI 33 func53 rfl hS hin rfl rfl rfl fun a s d=>?_
 have d:=(d.addE h5).addE (e:=a2b s1.length s1) a5q
 refine sz0 1 s rfl fun a s=>?_
 refine sn0 5 s rfl fun a s=>?_
 obtain ⟨l12,h8,u⟩:=bt u
 obtain ⟨p10,k11,h9⟩:=b0H (α:=ChanR) d 0 rfl h8
 refine sv s (b1a runUnderlying27 sizeOf73 rfl ⟨_,rfl⟩ rfl rfl h9) rfl fun a s=>?_
 refine nl (wp_seq (sz0 3 s rfl fun a s=>?_))
 refine wp_cond_split (s.ev rfl) (fun h14=>?_) (fun h14=>?_)
 ·have u:=D5 u h14
  refine sz0 2 s rfl fun a s=>?_
  obtain rfl:=oi u
  exact wp_ret (j3 (rt s rfl (d.ret ⟨p2,k3,c4,rfl,(d.outs [0] (by decide) rfl),(d.envAt 1 rfl)⟩)))
 have u:=D6 u h14
 refine sk (sn0 2 s rfl fun a s=>?_)
 obtain ⟨oldlen16,h15,u⟩:=bt u
 refine sv s (q8 rfl h15) rfl fun a s=>?_
 refine nl (wp_seq ?_)
 obtain ⟨l19,h17,u⟩:=bt u
 have h18:=b0G (α:=ChanR) d 0 rfl h17
 obtain ⟨l22,h20,u⟩:=bt u
 obtain ⟨p23,k24,h21⟩:=U7 (α:=ChanR) d 0 rfl h20
 obtain ⟨l27,h25,u⟩:=bt u
 refine y9 (fun a w=>∃ Sv28 c26,Sl 33 [(0,sl p2 k3 (l19 ++ l22)),(7,iv oldlen16)] a∧Wd ⟨w0,S0,H8 [.row p2 s1.length k3 c4 73 5]⟩ Sv28 [.row p2 l27.length k3 c26 73 5] [j6 c26 l27] w) ?_ ?_
 ·refine h_c [] [] d rfl rfl (by kernel_rfl) rfl fun hC d=>?_
  refine gn 2 [0,1] [] s hC rfl rfl rfl fun a s=>?_
  refine gv s 2 rfl rfl hC (fun w hC=>R9 runUnderlying27 sizeOf73 rfl (by exact rfl) ⟨_,rfl⟩ h18) fun a s=>?_
  refine gn 2 [3,4] [] s hC rfl rfl rfl fun a s=>?_
  refine gv s 5 rfl rfl hC (fun w hC=>R9 runUnderlying27 sizeOf73 rfl ⟨_,rfl⟩ (by exact rfl) h21) fun a s=>?_
  refine ho 6 rfl ?_
  refine b0V (α:=ChanR) s d 0 rfl 1 rfl a6R h8 h14 h17 h20 h21 rfl rfl h25 rfl trivial ?_
  intro c26 a w s d
  refine h_n [] [] d rfl rfl fun hC=>?_
  refine gv s 7 rfl rfl hC (fun w hC=>M7 rfl) fun a s=>?_
  refine x8 (by kernel_rfl) ?_
  exact ⟨S0,c26,wj s d [0] [0]⟩
 rintro a w ⟨Sv28,c26,s,d⟩
 refine tn (sn0 4 s rfl fun a s=>?_)
 obtain ⟨l31,h29,u⟩:=bt u
 obtain ⟨p32,k33,h30⟩:=U7 (α:=ChanR) d 0 rfl h29
 refine sv s (R9 runUnderlying27 sizeOf73 rfl ⟨_,rfl⟩ ⟨_,rfl⟩ h30) rfl fun a s=>?_
 obtain ⟨l34,h35,u⟩:=bt u
 obtain ⟨l39,h38,u⟩:=bt u
 refine a9f (α:=ChanR) (z0:=zR) s d 0 rfl 0 rfl a6R ⟨rfl,none,0,0,rfl⟩ h29 h30 rfl trivial ?_
 intro c36 a w s d
 rw [Option.some.inj h35] at d
 obtain ⟨d,_⟩:=b0U d 0 rfl 0 rfl h38
 have s:=s.fl 0 rfl (b0P h38)
 refine nl (sz0 2 s rfl fun a s=>?_)
 obtain rfl:=oi u
 exact q1 s rfl (d.ret ⟨p2,k3,(c36.take (l39.length * 5)),rfl,(d.outs [0] (by decide) rfl),(d.envAt 0 rfl)⟩)
theorem a1v {w0 S0 p2 k3 c4 s1 i6 j7 r} {b:Bool} (u:J9 s1 i6 j7=some r) (hj:j7=w64 (i6+1)) (hS:Dm S0 w0) (hin:Ins S0 w0 [.row p2 s1.length k3 c4 73 5]) (h5:(a8C c4 s1 b i6).p S0 w0):Ck Tryz.prog 53 #[sl p2 k3 s1,iv i6,iv j7] w0 S0 (H8 [.row p2 s1.length k3 c4 73 5]) G5 r:=by
 obtain ⟨rs,h1,h2,h3⟩:=h5
 obtain ⟨g0,g1,g2,rfl⟩:=delG_t (z:=(⟨(⟨ByteArray.empty,ByteArray.empty,ByteArray.empty,ByteArray.empty⟩:SourceID),([]:List Epoch)⟩:Channel)) u
 have hj1:j7.toNat=i6.toNat+1:=by have:=b5a (hj ▸ g1) g0;omega
 have hd:delR rs i6 j7=some (rs.take i6.toNat ++ rs.drop j7.toNat):=a7y _ g0 g1 (by omega)
 have hin':Ins S0 w0 [.row p2 rs.length k3 c4 73 5]:=by rw [h2];exact hin
 have hok:=delR_ok (p2:=p2) (k3:=k3) hd hS hin' h1
 have hll:(rs.take i6.toNat ++ rs.drop j7.toNat).length=(s1.take i6.toNat ++ s1.drop j7.toNat).length:=by simp [h2]
 have e1:H8 [.row p2 rs.length k3 c4 73 5]=H8 [.row p2 s1.length k3 c4 73 5]:=rfl
 have e2:(#[sl p2 k3 rs,iv i6,iv j7]:Array Value)=#[sl p2 k3 s1,iv i6,iv j7]:=by simp only [sl,h2]
 rw [← e2]
 refine hok.mono fun e w' hr=>?_
 obtain ⟨v,S,rfl,hp,p,k,c,rfl,ho,hR⟩:=hr
 refine ⟨_,S,rfl,hp,p,k,c,by simp only [sl,hll],by rw [← hll];exact ho,?_⟩
 have hk:a2a S0 S w0 w':=fun b hb=>⟨hp.sub b hb,hp.keep b (hS b hb) (notX hin hb)⟩
 refine a8Q hR hll fun n r' x hr hx=>?_
 obtain ⟨m,hm,f1,f2⟩:∃ m,m≠i6.toNat∧rs[m]? = some r'∧s1[m]? = some x:=by
  by_cases hn:n<i6.toNat
  ·exact ⟨n,by omega,by rw [List.getElem?_append_left (by simp;omega),List.getElem?_take_of_lt hn] at hr;exact hr,by rw [List.getElem?_append_left (by simp;omega),List.getElem?_take_of_lt hn] at hx;exact hx⟩
  rw [List.getElem?_append_right (by simp;omega),List.getElem?_drop] at hr hx
  have l1:(rs.take i6.toNat).length=i6.toNat:=by simp;omega
  have l2:(s1.take i6.toNat).length=i6.toNat:=by simp;omega
  rw [l1] at hr
  rw [l2] at hx
  exact ⟨_,by omega,hr,hx⟩
 obtain ⟨z1,z2⟩:=h3 m r' x f1 f2
 exact ⟨z1,(z2 fun _=>by omega).keep hk⟩
abbrev a1G (w0:World) (X:List Nat) (p8:Option Addr) (k9:Nat) (v7:(List Channel)) (r:((List Channel) × (List Channel))):(Nat→Prop)→World→Value→Prop:=fun S w v=>∃ p0_0 k0_0 c0_0 ck_0,v=sl p0_0 k0_0 r.1∧Outs X w0 S w [.row p0_0 r.1.length k0_0 c0_0 73 5,.row p8 r.2.length k9 ck_0 73 5]∧(j6 c0_0 r.1).p S w∧(j6 ck_0 r.2).p S w∧(a2b v7.length r.2).p S w
theorem a1F {w0 S0 p2 k3 c4 p8 k9 c10 s1 i6 v7 r} (u:K4 s1 i6 v7=some r) (hS:Dm S0 w0) (hin:Ins S0 w0 [.row p2 s1.length k3 c4 73 5,.row p8 v7.length k9 c10 73 5]) (h5:(j6 c4 s1).p S0 w0) (h11:(j6 c10 v7).p S0 w0):Calls Tryz.prog 54 #[sl p2 k3 s1,iv i6,sl p8 k9 v7] w0 (Ret (H8 [.row p2 s1.length k3 c4 73 5,.row p8 v7.length k9 c10 73 5]) w0 S0 (a1G w0 (H8 [.row p2 s1.length k3 c4 73 5,.row p8 v7.length k9 c10 73 5]) p8 k9 v7 r)):=by
 refine enI 95 func54 rfl hS hin rfl rfl rfl fun a s d=>?_
 have d:=((d.addE h5).addE (e:=a2b s1.length s1) a5q).addE h11
 have d:=d.addE (e:=a2b v7.length v7) a5q
 refine sz0 1 s rfl fun a s=>?_
 refine sn0 2 s rfl fun a s=>?_
 obtain ⟨l16,h12,u⟩:=bt u
 obtain ⟨p14,k15,h13⟩:=U7 (α:=Channel) d 0 rfl h12
 refine sv s (R9 runUnderlying27 sizeOf73 rfl ⟨_,rfl⟩ (by exact rfl) h13) rfl fun a s=>?_
 refine nl (sn0 2 s rfl fun a s=>?_)
 obtain ⟨m18,h17,u⟩:=bt u
 refine sv s (q8 rfl h17) rfl fun a s=>?_
 refine nl (wp_seq (sz0 2 s rfl fun a s=>?_))
 refine wp_cond_split (s.ev rfl) (fun h20=>?_) (fun h20=>?_)
 ·have u:=D5 u h20
  refine sz0 2 s rfl fun a s=>?_
  obtain rfl:=oi u
  exact wp_ret (j3 (rt s rfl (d.ret ⟨p2,k3,c4,c10,rfl,(d.outs [0,1] (by decide) rfl),(d.envAt 3 rfl),(d.envAt 1 rfl),(d.envAt 0 rfl)⟩)))
 have u:=D6 u h20
 refine sk (sn0 2 s rfl fun a s=>?_)
 obtain ⟨n22,h21,u⟩:=bt u
 refine sv s (q8 rfl h21) rfl fun a s=>?_
 refine nl (wp_seq (sz0 3 s rfl fun a s=>?_))
 refine wp_cond_split (s.ev rfl) (fun h29=>?_) (fun h29=>?_)
 ·have u:=D5 u h29
  refine sn0 2 s rfl fun a s=>?_
  obtain ⟨l31,h30,u⟩:=bt u
  refine I4 (α:=Channel) s d a6R 0 rfl rfl rfl 3 rfl 1 rfl 1 rfl h30 rfl trivial ?_
  intro p32 k33 c34 a w s d
  refine rz0 1 s rfl fun a s=>?_
  obtain rfl:=oi u
  exact wp_ret (j3 (rt s rfl (d.ret ⟨p32,k33,c34,c10,rfl,(d.outs [0,1] (by decide) rfl),(d.envAt 0 rfl),(d.envAt 2 rfl),(d.envAt 1 rfl)⟩)))
 have u:=D6 u h29
 refine sk (wp_seq (sn0 4 s rfl fun a s=>?_))
 refine sv s (b3j runUnderlying27 rfl) rfl fun a s=>?_
 refine rz0 1 s rfl fun a s=>?_
 refine wp_cond_split (s.ev rfl) (fun h71=>?_) (fun h71=>?_)
 ·refine sn0 2 s rfl fun a s=>?_
  obtain ⟨l74,h72,u⟩:=bt u
  have h73:=row_pre (α:=Channel) d 0 rfl h72
  refine sv s (R9 runUnderlying27 sizeOf73 rfl (by exact rfl) ⟨_,rfl⟩ h73) rfl fun a s=>?_
  refine rn0 5 s rfl fun a s=>?_
  obtain ⟨l76,h75,u⟩:=bt u
  refine b2r (α:=Channel) (z0:=((⟨(⟨ByteArray.empty,ByteArray.empty,ByteArray.empty,ByteArray.empty⟩:SourceID),([]:List Epoch)⟩:Channel):Channel)) s d 0 rfl 3 rfl a6R ⟨_,_,_,_,_,rfl,rfl,rfl,rfl,rfl,⟨none,0,0,rfl,M8⟩⟩ underlying3 h72 rfl rfl h75 (grow_lt h71 h72 h75) rfl trivial ?_
  intro p77 k78 c79 a w s d
  refine rz0 1 s rfl fun a s=>?_
  refine sn0 2 s rfl fun a s=>?_
  obtain ⟨l84,h80,u⟩:=bt u
  obtain ⟨p82,k83,h81⟩:=U7 (α:=Channel) d 0 rfl h80
  refine sv s (R9 runUnderlying27 sizeOf73 rfl ⟨_,rfl⟩ (by exact rfl) h81) rfl fun a s=>?_
  refine mv s rfl rfl fun a s=>?_
  obtain ⟨l85,h86,u⟩:=bt u
  obtain ⟨ds_,h91⟩:=b4q (d.ownAt 2 rfl) (d.envAt 2 rfl)
  refine b0f (α:=Channel) s d 0 rfl 0 rfl runUnderlying27 runUnderlying27 sizeOf73 (by decide) h80 h81 rfl rfl rfl h91.1 h91.2.1 h91.2.2 rfl trivial ?_
  intro c87 a w s d
  rw [Option.some.inj h86] at d
  have h88:=(a4U h80 h86)
  try have s:=s.fl 9 rfl h88
  try have s:=s.fl 41 rfl h88
  refine nl (wp_seq ?_)
  obtain ⟨l96,h92,u⟩:=bt u
  obtain ⟨p94,k95,h93⟩:=U7 (α:=Channel) d 0 rfl h92
  obtain ⟨l101,h97,u⟩:=bt u
  obtain ⟨p99,k100,h98⟩:=U7 (α:=Channel) d 1 rfl h97
  obtain ⟨l102,h103,u⟩:=bt u
  refine y9 (fun a w=>∃ Sv106 c104,Sl 95 [(9,sl p77 k78 l102)] a∧Wd ⟨w0,S0,H8 [.row p2 s1.length k3 c4 73 5,.row p8 v7.length k9 c10 73 5]⟩ Sv106 [.row p2 s1.length k3 c4 73 5,.row p8 v7.length k9 c10 73 5,.row p77 l102.length k78 c104 73 5] [j6 c4 s1,a2b s1.length s1,j6 c10 v7,a2b v7.length v7,j6 c104 l102] w) ?_ ?_
  ·refine h_c [1,2] [] d rfl rfl (by kernel_rfl) rfl fun hC d=>?_
   refine gn 4 [0,1,2,3] [] s hC rfl rfl rfl fun a s=>?_
   refine gv s 4 rfl rfl hC (fun w hC=>R9 runUnderlying27 sizeOf73 rfl ⟨_,rfl⟩ (by exact rfl) h93) fun a s=>?_
   refine gn 2 [5,6] [] s hC rfl rfl rfl fun a s=>?_
   refine gv s 7 rfl rfl hC (fun w hC=>R9 runUnderlying27 sizeOf73 rfl ⟨_,rfl⟩ (by exact rfl) h98) fun a s=>?_
   refine ho 8 rfl ?_
   obtain ⟨ds_,h109⟩:=b3K (d.ownAt 1 rfl) (d.envAt 5 rfl) h97 h98
   refine b0f (α:=Channel) s d 0 rfl 0 rfl runUnderlying27 runUnderlying27 sizeOf73 (by decide) h92 h93 rfl rfl rfl h109.1 h109.2.1 h109.2.2 rfl trivial ?_
   intro c104 a w s d
   rw [Option.some.inj h103] at d
   have h105:=(a4U h92 h103)
   try have s:=s.fl 9 rfl h105
   try have s:=s.fl 46 rfl h105
   refine h_n [1,2] [] d rfl rfl fun hC=>?_
   refine x8 (by kernel_rfl) ?_
   exact ⟨S0,c104,wj s d [1,2,0] [6,5,4,3,0]⟩
  rintro a w ⟨Sv106,c104,s,d⟩
  refine tn (sz0 2 s rfl fun a s=>?_)
  obtain rfl:=oi u
  exact wp_ret (j3 (rt s rfl (d.ret ⟨p77,k78,c104,c10,rfl,(d.outs [2,1] (by decide) rfl),(d.envAt 4 rfl),(d.envAt 2 rfl),(d.envAt 3 rfl)⟩)))
 obtain ⟨l110,h111,u⟩:=bt u
 obtain ⟨l112,h113,u⟩:=bt u
 obtain ⟨l114,h115,u⟩:=bt u
 obtain ⟨l116,h117,u⟩:=bt u
 obtain ⟨l118,h119,u⟩:=bt u
 obtain ⟨l120,h121,u⟩:=bt u
 obtain ⟨l122,h123,u⟩:=bt u
 obtain ⟨l124,l125,h126,h127,h128,h129,h130,h131,h132,h133,h134,h135,h136,h137⟩:=ins_B h21 h17 h20 h29 h71 (b4o (d.ownAt 0 rfl)) (b4o (d.ownAt 1 rfl)) h111 h113 h117 h119 h121 h123
 refine sk (sn0 4 s rfl fun a s=>?_)
 have h139:=grow_slc (p:=p2) (n:=s1.length) (k:=k3) (sz:=5) h129.1 h129.2 h128.2
 obtain ⟨c138,d⟩:=d.growRow 0 rfl h128.1 h128.2
 refine sv s (R9 runUnderlying27 sizeOf73 rfl (by exact rfl) ⟨_,rfl⟩ h139) rfl fun a s=>?_
 refine rz0 1 s rfl fun a s=>?_
 refine wp_seq (sn0 5 s rfl fun a s=>?_)
 obtain ⟨p140,k141,h142⟩:=U7 (α:=Channel) d 0 rfl h126
 refine sv s (R9 runUnderlying27 sizeOf73 rfl ⟨_,rfl⟩ (by exact rfl) h142) rfl fun a s=>?_
 refine sv s (b3R 1 0 d rfl rfl rfl h142 underlying27 sizeOf73 (by decide) h135 h136 (run_callFunc_extern (e:=Extern.SlicesOverlaps.overlaps #[27,27] #[4]) func100 (by kernel_rfl) (by kernel_rfl) (by kernel_rfl) (by kernel_rfl)) rfl rfl rfl) rfl fun a s=>?_
 refine rz0 1 s rfl fun a s=>?_
 refine wp_cond_true (s.ev rfl) ?_
 refine wp_seq ?_
 obtain ⟨p156,k157,h158⟩:=U7 (α:=Channel) d 0 rfl h126
 obtain ⟨p159,k160,h161⟩:=U7 (α:=Channel) d 0 rfl h127
 refine y9 (fun a w=>∃ Sv163 c162,Sl 95 [(0,sl p2 k3 l122),(1,iv i6),(2,sl p8 k9 v7)] a∧Wd ⟨w0,S0,H8 [.row p2 s1.length k3 c4 73 5,.row p8 v7.length k9 c10 73 5]⟩ Sv163 [.row p2 l122.length k3 c162 73 5,.row p8 v7.length k9 c10 73 5] [j6 c4 s1,PuA (Mid c4 c162 i6.toNat v7.length 5),j6 c10 v7,a2b v7.length v7] w) ?_ ?_
 ·refine h_c [1] [] d rfl rfl (by kernel_rfl) rfl fun hC d=>?_
  refine gn 4 [0,1,2,3] [] s hC rfl rfl rfl fun a s=>?_
  refine gv s 4 rfl rfl hC (fun w hC=>R9 runUnderlying27 sizeOf73 rfl ⟨_,rfl⟩ (by exact rfl) h158) fun a s=>?_
  refine gn 2 [5,6] [] s hC rfl rfl rfl fun a s=>?_
  refine gv s 7 rfl rfl hC (fun w hC=>R9 runUnderlying27 sizeOf73 rfl ⟨_,rfl⟩ (by exact rfl) h161) fun a s=>?_
  refine ho 8 rfl ?_
  refine w_shift (α:=Channel) (ni:=i6.toNat) (mi:=v7.length) s d 0 rfl 0 rfl 4 rfl runUnderlying27 runUnderlying27 sizeOf73 (by decide) h130 h131 h158 h132 h133 h161 rfl h134 rfl rfl rfl trivial ?_
  intro c162 a w s d
  refine h_n [1] [] d rfl rfl fun hC=>?_
  refine x8 (by kernel_rfl) ?_
  exact ⟨S0,c162,wj s d [0,1] [5,0,3,2]⟩
 rintro a w ⟨Sv163,c162,s,d⟩
 refine tn (sn0 2 s rfl fun a s=>?_)
 obtain ⟨p164,k165,h166⟩:=U7 (α:=Channel) d 0 rfl h127
 refine sv s (R9 runUnderlying27 sizeOf73 rfl ⟨_,rfl⟩ (by exact rfl) h166) rfl fun a s=>?_
 refine mv s rfl rfl fun a s=>?_
 obtain ⟨ds_,h168⟩:=b4q (d.ownAt 1 rfl) (d.envAt 2 rfl)
 refine w_fill (α:=Channel) (ni:=i6.toNat) (mi:=v7.length) s d 0 rfl 1 rfl 0 rfl runUnderlying27 runUnderlying27 sizeOf73 (by decide) h130 h131 h135 h166 rfl h134 rfl rfl h168.1 h168.2.1 h168.2.2 h137 rfl rfl rfl trivial ?_
 intro c167 a w s d
 refine nl (sz0 2 s rfl fun a s=>?_)
 obtain rfl:=oi u
 exact wp_ret (j3 (rt s rfl (d.ret ⟨p2,k3,c167,c10,rfl,(d.outs [0,1] (by decide) rfl),(d.envAt 0 rfl),(d.envAt 3 rfl),(d.envAt 4 rfl)⟩)))
abbrev a5t (w0:World) (X:List Nat) (r:(Inventory × Int)):Rd:=fun S w v=>∃ p0_0 k0_0 c0_0,v=.tuple #[.agg #[sl p0_0 k0_0 r.1.Channels],iv r.2]∧Outs X w0 S w [.row p0_0 r.1.Channels.length k0_0 c0_0 73 5]∧(j6 c0_0 r.1.Channels).p S w
abbrev a7T:List Value:=[.slice none ([]:List Channel).length 0]
theorem a3L {w0 S0 p2 k3 p6 k7 inv1 c5 r} (u:M0 inv1 c5=some r) (hS:Dm S0 w0) (h4:(Sq p2 k3 inv1.Channels).p S0 w0) (h8:(Sq p6 k7 c5.Epoch.Response.Stages).p S0 w0):Ck Tryz.prog 14 #[.agg #[sl p2 k3 inv1.Channels],V43 c5 p6 k7] w0 S0 [] a5t r:=by
 refine en 100 func14 rfl hS rfl rfl rfl fun a s d=>?_
 have d:=(d.addE h4).addE h8
 refine sr (wb [sl p2 k3 inv1.Channels] s d rfl fun b9 a w s d=>?_)
 refine wb (C43 c5 p6 k7) s d rfl fun b10 a w s d=>?_
 refine wa a7T s d zeroValue29 fun b11 a w s d=>?_
 refine rz0 1 s rfl fun a s=>?_
 refine wp_seq (sn 2 [2,1] s d rfl rfl fun a s=>?_)
 obtain ⟨rv13,h12,u⟩:=bt u
 refine cV s d (a8Z h12 d.bdom (d.bE 1 rfl) (d.bE 0 rfl)) (d9 call47 rfl) rfl fun a w s d=>?_
 refine rz0 1 s rfl fun a s=>?_
 refine cd s u rfl (fun u=>?_) fun u=>?_
 ·refine sr (sv s (z8 (vs:=[]) a4V rfl rfl) rfl fun a s=>?_)
  refine ws a7T s d 0 rfl rfl rfl sizeOf29 fun a w s d=>?_
  refine rz0 1 s rfl fun a s=>?_
  obtain rfl:=oi u
  have d:=d.nilRow Channel 73
  exact wp_ret (j3 (a1p s rfl (F7 d 1 rfl rfl isAgg29 sizeOf29 rfl) (H7 rfl) (d.ret ⟨none,0,[],rfl,(d.outs [0] (by decide) rfl),(d.envAt 0 rfl)⟩)))
 refine sk (sn 1 [2] s d rfl rfl fun a s=>?_)
 obtain ⟨rv23,h22,u⟩:=bt u
 have h33:=d.size
 refine cR s (a8d h22 d.dom (d.envAt 1 rfl)) (d9 call48 rfl) rfl ?_
 rintro v31 Sv28 w a h29 ⟨p24,k25,c27,rfl,h32,h26,h34⟩ s
 have d:=((d.callN h29 h32).addE (e:=j6 c27 rv23.Channels) h26).addE (e:=UqA w0.heap.size c27 rv23.Channels) (UqA.le h34 h33)
 refine ws [sl p24 k25 rv23.Channels] s d 3 rfl rfl rfl sizeOf29 fun a w s d=>?_
 refine nl (sn 3 [3,2] s d rfl rfl fun a s=>?_)
 obtain ⟨rv36,h35,u⟩:=bt u
 refine cV s d (a9a h35 d.bdom (d.bRow 0 rfl 1 rfl)) (d9 call49 rfl) rfl fun a w s d=>?_
 refine rz0 5 s rfl fun a s=>?_
 refine sz0 1 s rfl fun a s=>?_
 refine wp_seq (sz0 1 s rfl fun a s=>?_)
 refine x9 (fun a w=>∃ (l67:(List Epoch)) (c63 p64 k65 Sv66:_),P7 c5 rv23 rv36 l67=some r∧Sl 100 [(2,pt b9),(3,pt b10),(4,pt b11),(6,iv rv36.1),(7,.bool rv36.2),(8,sl p64 k65 l67)] a∧Wd ⟨w0,S0,[]⟩ Sv66 [.box b9 [sl p24 k25 rv23.Channels] 29,.box b10 (C43 c5 p6 k7) 43,.box b11 a7T 29,.row p24 rv23.Channels.length k25 c27 73 5,.row p64 l67.length k65 c63 41 8] [Sq p6 k7 c5.Epoch.Response.Stages,Sq none 0 ([]:List Channel),a8C c27 rv23.Channels rv36.2 rv36.1,j6 c63 l67] w) ?_ ?_
 ·refine wp_cond_split (s.ev rfl) (fun h376=>?_) (fun h376=>?_)
  ·have u:=D5 u h376
   refine wp_region_lit (rn 3 [3] s d rfl rfl fun a s=>?_)
   obtain ⟨x379,h377,u⟩:=bt u
   obtain ⟨b386,q383,c384,h387,h380,h381,h385,h378⟩:=d.elemRV (α:=Channel) 0 rfl 1 rfl h377
   have hsv388:=s
   have hwv389:=d
   subst h387
   have s:=hsv388
   have d:=hwv389
   obtain ⟨_,_,_,_,_,rfl,rfl,rfl,rfl,rfl,⟨p390,n391,k392,rfl,h393⟩⟩:=h378
   obtain rfl:=h393.1
   have d:=d.addE (e:=SlA p390 _ k392 x379.Epochs) h393
   refine sv s (o8 runUnderlying27 sizeOf73 rfl rfl h380.1 h380.2 h381) rfl fun a s=>?_
   refine sv s (j5 (o':=q383+4) runUnderlying73 rfl sizeOf71 rfl rfl rfl) rfl fun a s=>?_
   refine sv s (K5 (j:=4) (d.ownAt 0 rfl) rfl isAgg71 h385 rfl) rfl fun a s=>?_
   obtain ⟨Sv394,c395,d⟩:=d.unshare rfl hS 1 rfl (Nat.le_refl _) h377 h381 h385 h376
   have d:=d.addE (Asrt.mono _ (d.keep0 rfl hS) h4)
   have d:=d.addE (Asrt.mono _ (d.keep0 rfl hS) h8)
   refine rz0 1 s rfl fun a s=>?_
   have d:=d.addE (e:=SlA (α:=Channel) none 0 0 []) M8
   exact ⟨x379.Epochs,c395,p390,k392,Sv394,u,wj s d [4,3,2,1,0] [1,0,4,3]⟩
  have u:=D6 u h376
  refine sk ?_
  have d:=((d.nilRow Epoch 41).addE (e:=SlA (α:=Channel) none 0 0 []) M8).toHole 3 rfl rv36.1 h376
  exact ⟨([]:List Epoch),[],none,0,Sv28,u,wj s d [4,3,2,1,0] [5,1,0,2]⟩
 rintro a w ⟨l67,c63,p64,k65,Sv66,u,s,d⟩
 refine tn (wp_seq (sz 3 [1] s d rfl rfl fun a s=>?_))
 refine x9 (fun a w=>∃ (l94:(List Epoch)) (c90 p91 k92 Sv93:_),a0u c5 rv23 rv36 l94=some r∧Sl 100 [(2,pt b9),(3,pt b10),(4,pt b11),(6,iv rv36.1),(7,.bool rv36.2),(8,sl p91 k92 l94)] a∧Wd ⟨w0,S0,[]⟩ Sv93 [.box b9 [sl p24 k25 rv23.Channels] 29,.box b10 (C43 c5 p6 k7) 43,.box b11 a7T 29,.row p24 rv23.Channels.length k25 c27 73 5,.row p91 l94.length k92 c90 41 8] [Sq p6 k7 c5.Epoch.Response.Stages,Sq none 0 ([]:List Channel),a8C c27 rv23.Channels rv36.2 rv36.1,j6 c90 l94] w) ?_ ?_
 ·refine cd s u rfl (fun u=>?_) fun u=>?_
  ·refine sn 3 [1] s d rfl rfl fun a s=>?_
   obtain ⟨rv355,h354,u⟩:=bt u
   refine cV s d (a9V h354 d.bdom (d.bRow 4 rfl 3 rfl)) (d9 call50 rfl) rfl fun a w s d=>?_
   refine rz0 1 s rfl fun a s=>?_
   refine wp_seq (sz0 2 s rfl fun a s=>?_)
   refine cd s u rfl (fun u=>?_) fun u=>?_
   ·refine sr (sv s (z8 (vs:=[]) a4V rfl rfl) rfl fun a s=>?_)
    refine ws a7T s d 2 rfl rfl rfl sizeOf29 fun a w s d=>?_
    refine rz0 1 s rfl fun a s=>?_
    obtain rfl:=oi u
    have d:=d.nilRow Channel 73
    exact wp_ret (j3 (j3 (j3 (a1p s rfl (F7 d 3 rfl rfl isAgg29 sizeOf29 rfl) (H7 rfl) (d.ret ⟨none,0,[],rfl,(d.outs [0] (by decide) rfl),(d.envAt 0 rfl)⟩)))))
   refine sk (wp_region_lit (rn0 4 s rfl fun a s=>?_))
   obtain ⟨rv365,h364,u⟩:=bt u
   refine cR s (a2y h364 d.dom (d.ins [4] (by decide) rfl) (d.envAt 3 rfl)) (d9 call51 rfl) rfl ?_
   rintro v373 Sv370 w a h371 ⟨p366,k367,c369,rfl,h374,h368⟩ s
   have d:=(d.callO [4] [0,1,2,3] (by decide) rfl h371 h374).addE (e:=j6 c369 rv365) h368
   refine rz0 1 s rfl fun a s=>?_
   exact ⟨rv365,c369,p366,k367,Sv370,u,wj s d [1,2,3,4,0] [1,2,3,0]⟩
  exact sk ⟨l67,c63,p64,k65,Sv66,u,wj s d [0,1,2,3,4] [0,1,2,3]⟩
 rintro a w ⟨l94,c90,p91,k92,Sv93,u,s,d⟩
 refine tn (wp_seq (sz 3 [1] s d rfl rfl fun a s=>?_))
 refine x9 (fun a w=>∃ (l113:(List Epoch)) (c109 p110 k111 Sv112:_),a0v c5 rv23 rv36 l113=some r∧Sl 100 [(2,pt b9),(3,pt b10),(4,pt b11),(6,iv rv36.1),(7,.bool rv36.2),(8,sl p110 k111 l113)] a∧Wd ⟨w0,S0,[]⟩ Sv112 [.box b9 [sl p24 k25 rv23.Channels] 29,.box b10 (C43 c5 p6 k7) 43,.box b11 a7T 29,.row p24 rv23.Channels.length k25 c27 73 5,.row p110 l113.length k111 c109 41 8] [Sq p6 k7 c5.Epoch.Response.Stages,Sq none 0 ([]:List Channel),a8C c27 rv23.Channels rv36.2 rv36.1,j6 c109 l113] w) ?_ ?_
 ·refine cd s u rfl (fun u=>?_) fun u=>?_
  ·refine sz0 1 s rfl fun a s=>?_
   refine sn 3 [1] s d rfl rfl fun a s=>?_
   obtain ⟨rv340,h339,u⟩:=bt u
   refine cR s (a9y h339 d.dom (d.ins [4] (by decide) rfl) (d.envAt 3 rfl) (d.envAt 0 rfl)) (d9 call52 rfl) rfl ?_
   rintro v348 Sv345 w a h346 ⟨p341,k342,c344,rfl,h349,h343⟩ s
   have d:=(d.callO [4] [0,1,2,3] (by decide) rfl h346 h349).addE (e:=j6 c344 rv340.1) h343
   refine rz0 5 s rfl fun a s=>?_
   refine sz0 2 s rfl fun a s=>?_
   refine cd s u rfl (fun u=>?_) fun u=>?_
   ·refine sr (sv s (z8 (vs:=[]) a4V rfl rfl) rfl fun a s=>?_)
    refine ws a7T s d 3 rfl rfl rfl sizeOf29 fun a w s d=>?_
    refine rz0 1 s rfl fun a s=>?_
    obtain rfl:=oi u
    have d:=d.nilRow Channel 73
    exact wp_ret (j3 (j3 (a1p s rfl (F7 d 4 rfl rfl isAgg29 sizeOf29 rfl) (H7 rfl) (d.ret ⟨none,0,[],rfl,(d.outs [0] (by decide) rfl),(d.envAt 0 rfl)⟩))))
   exact sk ⟨rv340.1,c344,p341,k342,Sv345,u,wj s d [1,2,3,4,0] [1,2,3,0]⟩
  exact sk ⟨l94,c90,p91,k92,Sv93,u,wj s d [0,1,2,3,4] [0,1,2,3]⟩
 rintro a w ⟨l113,c109,p110,k111,Sv112,u,s,d⟩
 refine tn (wp_seq (wp_block (sz0 4 s rfl fun a s=>?_)))
 refine x9 (fun a w=>∃ (x237:(List Channel)) (c233 p234 k235 Sv236:_),a0w l113 x237=some r∧Sl 100 [(2,pt b9),(4,pt b11),(8,sl p110 k111 l113)] a∧Wd ⟨w0,S0,[]⟩ Sv236 [.box b9 [sl p234 k235 x237] 29,.box b11 a7T 29,.row p234 x237.length k235 c233 73 5] [Sq p110 k111 l113,Sq none 0 ([]:List Channel),j6 c233 x237] w) ?_ ?_
 ·refine cd s u rfl (fun u=>?_) fun u=>?_
  ·refine wp_region_lit (rn 5 [0] s d rfl rfl fun a s=>?_)
   obtain ⟨rv243,h242,u⟩:=bt u
   refine cR s (a1v h242 rfl d.dom (d.ins [3] (by decide) rfl) (d.envAt 2 rfl)) (d9 call53 rfl) rfl ?_
   rintro v251 Sv248 w a h249 ⟨p244,k245,c247,rfl,h252,h246⟩ s
   have d:=(d.callO [3] [0,1,2,4] (by decide) rfl h249 h252).addE (e:=j6 c247 rv243) h246
   refine sv s (j5 (o':=0) runUnderlying29 rfl sizeOf27 rfl rfl rfl) rfl fun a s=>?_
   refine ws [sl p244 k245 rv243] s d 1 rfl rfl rfl sizeOf27 fun a w s d=>?_
   refine nl ?_
   obtain ⟨Sv254,d⟩:=A9 (α:=Epoch) d 4 rfl 4 rfl
   exact ⟨rv243,c247,p244,k245,Sv254,u,wj s d [1,3,0] [0,3,1]⟩
  refine sz0 2 s rfl fun a s=>?_
  refine x9 (fun a w=>∃ (x298:(List Channel)) (c294 p295 k296 Sv297:_),a0x l113 x298=some r∧Sl 100 [(2,pt b9),(4,pt b11),(8,sl p110 k111 l113)] a∧Wd ⟨w0,S0,[]⟩ Sv297 [.box b9 [sl p295 k296 x298] 29,.box b11 a7T 29,.row p295 x298.length k296 c294 73 5] [Sq p110 k111 l113,Sq none 0 ([]:List Channel),j6 c294 x298] w) ?_ ?_
  ·refine wp_cond_split (s.ev rfl) (fun h299=>?_) (fun h299=>?_)
   ·have u:=D5 u h299
    refine wp_region_lit (rn 4 [0] s d rfl rfl fun a s=>?_)
    obtain ⟨x302,h300,u⟩:=bt u
    obtain ⟨b309,q306,h310,h303,h304⟩:=d.elemHV 3 rfl h300
    have hsv311:=s
    have hwv312:=d
    subst h310
    have s:=hsv311
    have d:=hwv312
    refine sv s (o8 runUnderlying27 sizeOf73 rfl rfl h303.1 h303.2 h304) rfl fun a s=>?_
    refine sv s (j5 (o':=q306+4) runUnderlying73 rfl sizeOf71 rfl rfl rfl) rfl fun a s=>?_
    obtain ⟨l314,h313,u⟩:=bt u
    obtain ⟨Sv317,d⟩:=A9 (α:=Epoch) d 4 rfl 3 rfl
    refine b3i s d 3 rfl 3 rfl 0 rfl h300 h304 rfl rfl sizeOf71 h313 trivial ?_
    intro c315 a w s d
    have h316:=Y0 h313
    try have s:=s.fl 84 rfl h316
    have d:=d.fixB 0 0 rfl rfl h316
    exact nl ⟨l314,c315,(ad b309),k25,Sv317,u,wj s d [0,2,3] [1,3,0]⟩
   have u:=D6 u h299
   refine wp_region_lit (rn 6 [0,1] s d rfl rfl fun a s=>?_)
   refine sv s (z8 (vs:=[(0,V32 c5.Source),(1,sl p110 k111 l113)]) b2v rfl rfl) rfl fun a s=>?_
   obtain ⟨Sv320,d⟩:=A9 (α:=Epoch) d 4 rfl 3 rfl
   refine y7 (α:=Channel) (vs:=[V73 ⟨c5.Source,l113⟩ p110 k111]) (cs:=(C73 ⟨c5.Source,l113⟩ p110 k111)) (xs:=([(⟨c5.Source,l113⟩:Channel)]:List Channel)) s d a6R rfl rfl rfl rfl rfl rfl ⟨⟨_,_,_,_,_,rfl,rfl,rfl,rfl,rfl,⟨_,_,_,rfl,d.envAt 0 rfl⟩⟩,rfl⟩ rfl trivial rfl fun b319 a w s d=>?_
   obtain ⟨rv322,h321,u⟩:=bt u
   have d:=d.ofHole 4 rfl h299
   refine cR s (a1F h321 d.dom (d.ins [4,0] (by decide) rfl) (d.envAt 0 rfl) (d.envAt 1 rfl)) (d9 call54 rfl) rfl ?_
   rintro v333 Sv330 w a h331 ⟨p323,k324,c326,c327,rfl,h334,h325,h328,h329⟩ s
   have d:=((d.callO [4,0] [1,2,3] (by decide) rfl h331 h334).addE (e:=j6 c326 rv322.1) h325).addE (e:=j6 c327 rv322.2) h328
   have h336:=h329
   have h337:=Eq.symm h336
   try have s:=s.fl 67 rfl h337
   refine sv s (j5 (o':=0) runUnderlying29 rfl sizeOf27 rfl rfl rfl) rfl fun a s=>?_
   refine ws [sl p323 k324 rv322.1] s d 2 rfl rfl rfl sizeOf27 fun a w s d=>?_
   exact nl ⟨rv322.1,c326,p323,k324,Sv330,u,wj s d [2,4,0] [4,6,1]⟩
  rintro a w ⟨x298,c294,p295,k296,Sv297,u,s,d⟩
  exact tn ⟨x298,c294,p295,k296,Sv297,u,wj s d [0,1,2] [0,1,2]⟩
 rintro a w ⟨x237,c233,p234,k235,Sv236,u,s,d⟩
 refine l9 (tn (wp_seq (sn 5 [0] s d rfl rfl fun a s=>?_)))
 refine rO 4 93 [] s d rfl rfl rfl rfl rfl fun a s=>?_
 refine nl (cd s u rfl (fun u=>?_) fun u=>?_)
 ·refine sr (sv s (z8 (vs:=[]) a4V rfl rfl) rfl fun a s=>?_)
  refine ws a7T s d 1 rfl rfl rfl sizeOf29 fun a w s d=>?_
  refine rz0 1 s rfl fun a s=>?_
  obtain rfl:=oi u
  have d:=d.nilRow Channel 73
  exact wp_ret (j3 (a1p s rfl (F7 d 2 rfl rfl isAgg29 sizeOf29 rfl) (H7 rfl) (d.ret ⟨none,0,[],rfl,(d.outs [0] (by decide) rfl),(d.envAt 0 rfl)⟩)))
 refine sk (sn 1 [0] s d rfl rfl fun a s=>?_)
 refine ws [sl p234 k235 x237] s d 1 rfl rfl rfl sizeOf29 fun a w s d=>?_
 refine rz0 1 s rfl fun a s=>?_
 obtain rfl:=oi u
 exact wp_ret (a1p s rfl (F7 d 1 rfl rfl isAgg29 sizeOf29 rfl) (H7 rfl) (d.ret ⟨p234,k235,c233,rfl,(d.outs [2] (by decide) rfl),(d.envAt 2 rfl)⟩))
theorem a1E {w0 S0 n1 r} (u:K3 n1=some r) (hS:Dm S0 w0):Ck Tryz.prog 103 #[.slice none 0 0,iv n1] w0 S0 [] G5 r:=by
 refine en 27 func103 rfl hS rfl rfl rfl fun a s d=>?_
 refine sz0 1 s rfl fun a s=>?_
 refine wp_seq (sz0 2 s rfl fun a s=>?_)
 refine cd s u rfl (fun u=>?_) fun u=>?_
 ·cases u
 refine sk (wp_seq (sn0 2 s rfl fun a s=>?_))
 refine sv s (b3j runUnderlying27 rfl) rfl fun a s=>?_
 refine rn0 4 s rfl fun a s=>?_
 obtain ⟨n5,h4,u⟩:=bt u
 refine sv s (q8 rfl h4) rfl fun a s=>?_
 refine nl (sz0 2 s rfl fun a s=>?_)
 refine x9 (fun a w=>∃ (sv23:(List Channel)) (c19 p20 k21 Sv22:_),I5 sv23=some r∧Sl 27 [(0,sl p20 k21 sv23)] a∧Wd ⟨w0,S0,[]⟩ Sv22 [.row p20 sv23.length k21 c19 73 5] [j6 c19 sv23] w) ?_ ?_
 ·refine cd s u rfl (fun u=>?_) fun u=>?_
  ·refine wp_region_lit (rn0 2 s rfl fun a s=>?_)
   refine sv s (b3j runUnderlying27 rfl) rfl fun a s=>?_
   obtain ⟨l28,h25,u⟩:=bt u
   obtain ⟨h26,h27⟩:=b4r 5 h25
   subst h26
   refine sv s (R9 runUnderlying27 sizeOf73 rfl (by exact rfl) ⟨_,rfl⟩ h27) rfl fun a s=>?_
   refine mv s rfl rfl fun a s=>?_
   obtain ⟨l30,h29,u⟩:=bt u
   refine b0T (α:=Channel) (z0:=((⟨(⟨ByteArray.empty,ByteArray.empty,ByteArray.empty,ByteArray.empty⟩:SourceID),([]:List Epoch)⟩:Channel):Channel)) s d a6R ⟨_,_,_,_,_,rfl,rfl,rfl,rfl,rfl,⟨none,0,0,rfl,M8⟩⟩ underlying3 rfl rfl h29 rfl rfl trivial ?_
   intro p31 k32 c33 a w s d
   refine rn0 2 s rfl fun a s=>?_
   obtain ⟨l36,h34,u⟩:=bt u
   obtain ⟨d,h35⟩:=b0U d 0 rfl 0 rfl h34
   refine sv s (R9 runUnderlying27 sizeOf73 rfl (by exact rfl) ⟨_,rfl⟩ h35) rfl fun a s=>?_
   refine rz0 1 s rfl fun a s=>?_
   exact ⟨l36,(c33.take (l36.length * 5)),p31,k32,S0,u,wj s d [0] [0]⟩
  refine sk ?_
  have d:=d.nilRow Channel 73
  exact ⟨([]:List Channel),[],none,0,S0,u,wj s d [0] [0]⟩
 rintro a w ⟨sv23,c19,p20,k21,Sv22,u,s,d⟩
 refine tn (sz0 2 s rfl fun a s=>?_)
 obtain rfl:=oi u
 exact q1 s rfl (d.ret ⟨p20,k21,c19,rfl,(d.outs [0] (by decide) rfl),(d.envAt 0 rfl)⟩)
theorem a1D {w0 S0 p2 k3 slices1 r} (u:J8 slices1=some r) (hS:Dm S0 w0) (h4:(Sq p2 k3 slices1).p S0 w0):Ck Tryz.prog 56 #[sl p2 k3 slices1] w0 S0 [] G5 r:=by
 refine en 36 func56 rfl hS rfl rfl rfl fun a s d=>?_
 have d:=d.addE h4
 refine sz0 1 s rfl fun a s=>?_
 refine sz0 1 s rfl fun a s=>?_
 refine wp_seq (sz0 3 s rfl fun a s=>?_)
 obtain ⟨e74,h266,u⟩:=bt u
 refine x9 (fun a w=>∃ Sv75,Sl 36 [(0,sl p2 k3 slices1),(3,iv e74)] a∧Wd ⟨w0,S0,[]⟩ Sv75 [] [Sq p2 k3 slices1] w) ?_ ?_
 ·refine wp_block (u7 (fun sv5 a w=>∃ Sv49,Sl 36 [(0,sl p2 k3 slices1),(3,iv sv5.1),(9,sl p2 k3 slices1),(10,iv (slices1.length:Int)),(11,iv sv5.2)] a∧Wd ⟨w0,S0,[]⟩ Sv49 [] [Sq p2 k3 slices1] w) (0,0) h266 ⟨S0,wj s d [] [0]⟩ ?_)
  clear h266
  repeat clear u
  rintro sv5 a w tv72 ⟨Sv49,s,d⟩ u hd71
  refine sz0 1 s rfl fun a s=>?_
  refine wp_seq (cd s u rfl (fun u=>?_) fun u=>?_)
  ·refine sk (wp_seq (wp_block (sr ?_)))
   obtain ⟨x100,h98,u⟩:=bt u
   obtain ⟨b106,o107,q104,c105,h108,h101,h102,h103,h99⟩:=d.elemV 0 rfl h98
   have hsv109:=s
   have hwv110:=d
   subst h108
   have s:=hsv109
   have d:=hwv110
   obtain ⟨_,rfl,⟨p111,n112,k113,rfl,h114⟩⟩:=h99
   obtain rfl:=h114.1
   have d:=(d.addE (e:=SlA p111 _ k113 x100) h114).addE h103
   refine sv s (o8 runUnderlying151 sizeOf27 rfl rfl h101.1 h101.2 h102) rfl fun a s=>?_
   refine sv s (F5 (j:=0) (d.ceAt 0 rfl) rfl isAgg27 rfl) rfl fun a s=>?_
   refine rz0 1 s rfl fun a s=>?_
   refine sn0 4 s rfl fun a s=>?_
   obtain ⟨size116,h115,u⟩:=bt u
   refine sv s (q8 rfl h115) rfl fun a s=>?_
   refine nl (sz0 2 s rfl fun a s=>?_)
   refine cd s u rfl (fun u=>?_) fun u=>?_
   ·cases u
   refine wp_skip (l9 (tn (wp_region_lit (rz0 2 s rfl fun a s=>?_))))
   exact ⟨_,io u,Sv49,wj s d [] [2]⟩
  refine wp_exit (j4 (j4 (o9 ?_)))
  obtain rfl:=oi u
  have h119:=hd71 _ rfl
  subst h119
  exact tn ⟨Sv49,wj s d [] [0]⟩
 rintro a w ⟨Sv75,s,d⟩
 refine tn (sn0 1 s rfl fun a s=>?_)
 obtain ⟨rv121,h120,u⟩:=bt u
 refine cR s (a1E h120 d.dom) (d9 call103 rfl) rfl ?_
 rintro v129 Sv126 w a h127 ⟨p122,k123,c125,rfl,h130,h124⟩ s
 have d:=(d.callN h127 h130).addE (e:=j6 c125 rv121) h124
 refine rz0 1 s rfl fun a s=>?_
 refine wp_seq (sz0 3 s rfl fun a s=>?_)
 obtain ⟨e213,h265,u⟩:=bt u
 refine x9 (fun a w=>∃ c214 p215 k216 Sv217,Sl 36 [(6,sl p215 k216 e213)] a∧Wd ⟨w0,S0,[]⟩ Sv217 [.row p215 e213.length k216 c214 73 5] [j6 c214 e213] w) ?_ ?_
 ·refine wp_block (u7 (fun sv132 a w=>∃ c183 p184 k185 Sv186,Sl 36 [(6,sl p184 k185 sv132.1),(25,sl p2 k3 slices1),(26,iv (slices1.length:Int)),(27,iv sv132.2)] a∧Wd ⟨w0,S0,[]⟩ Sv186 [.row p184 sv132.1.length k185 c183 73 5] [Sq p2 k3 slices1,j6 c183 sv132.1] w) (rv121,0) h265 ⟨c125,p122,k123,Sv126,wj s d [0] [1,0]⟩ ?_)
  clear h265
  repeat clear u
  rintro sv132 a w tv211 ⟨c183,p184,k185,Sv186,s,d⟩ u hd210
  refine sz0 1 s rfl fun a s=>?_
  refine wp_seq (cd s u rfl (fun u=>?_) fun u=>?_)
  ·refine sk (wp_seq (wp_block (sr ?_)))
   obtain ⟨x244,h242,u⟩:=bt u
   obtain ⟨b250,o251,q248,c249,h252,h245,h246,h247,h243⟩:=d.elemV 0 rfl h242
   have hsv253:=s
   have hwv254:=d
   subst h252
   have s:=hsv253
   have d:=hwv254
   obtain ⟨_,rfl,⟨p255,n256,k257,rfl,h258⟩⟩:=h243
   obtain rfl:=h258.1
   have d:=(d.addE (e:=SlA p255 _ k257 x244) h258).addE h247
   refine sv s (o8 runUnderlying151 sizeOf27 rfl rfl h245.1 h245.2 h246) rfl fun a s=>?_
   refine sv s (F5 (j:=0) (d.ceAt 0 rfl) rfl isAgg27 rfl) rfl fun a s=>?_
   refine rz0 1 s rfl fun a s=>?_
   refine wp_region_lit (rn0 2 s rfl fun a s=>?_)
   obtain ⟨l260,h259,u⟩:=bt u
   refine P9 (α:=Channel) s d a6R 0 rfl rfl rfl 3 rfl 1 rfl h259 rfl trivial ?_
   intro p261 k262 c263 a w s d
   refine av s rfl rfl fun a s=>?_
   refine wpList_nil ?_
   refine l9 (tn (wp_region_lit (rz0 2 s rfl fun a s=>?_)))
   exact ⟨_,io u,c263,p261,k262,Sv186,wj s d [0] [3,0]⟩
  refine wp_exit (j4 (j4 (o9 ?_)))
  obtain rfl:=oi u
  have h264:=hd210 _ rfl
  subst h264
  exact tn ⟨c183,p184,k185,Sv186,wj s d [0] [1]⟩
 rintro a w ⟨c214,p215,k216,Sv217,s,d⟩
 refine tn (sz0 2 s rfl fun a s=>?_)
 obtain rfl:=oi u
 exact q1 s rfl (d.ret ⟨p215,k216,c214,rfl,(d.outs [0] (by decide) rfl),(d.envAt 0 rfl)⟩)
abbrev M9 (w0:World) (X:List Nat) (r:(List SourceID)):Rd:=fun S w v=>∃ p0_0 k0_0 c0_0,v=sl p0_0 k0_0 r∧Outs X w0 S w [.row p0_0 r.length k0_0 c0_0 32 4]∧(j6 c0_0 r).p S w
theorem a1u {w0 S0 p2 k3 s1 r} (u:J4 s1=some r) (hS:Dm S0 w0) (h4:(Sq p2 k3 s1).p S0 w0):Ck Tryz.prog 104 #[sl p2 k3 s1] w0 S0 [] M9 r:=by
 refine en 8 func104 rfl hS rfl rfl rfl fun a s d=>?_
 have d:=d.addE h4
 delta J4 at u
 refine sz0 1 s rfl fun a s=>?_
 refine wp_seq (sn0 1 s rfl fun a s=>?_)
 refine sv s (a9F runUnderlying60 rfl rfl) rfl fun a s=>?_
 refine nl ?_
 have hsv15:=s
 have hwv16:=d
 rcases p2 with _ | av8
 ·have s:=hsv15
  have d:=hwv16
  obtain rfl:=b1F (d.envAt 0 rfl)
  have u:some ([]:List SourceID)=some r:=by simpa [R5,maxLen] using u
  refine wp_cond_true (s.ev rfl) ?_
  refine sz0 1 s rfl fun a s=>?_
  obtain rfl:=oi u
  have d:=d.nilRow SourceID 32
  exact wp_ret (j3 (rt s rfl (d.ret ⟨none,0,[],rfl,(d.outs [0] (by decide) rfl),(d.envAt 0 rfl)⟩)))
 have s:=hsv15
 have d:=hwv16
 refine wp_cond_false (s.ev rfl) ?_
 refine sk (sr (a1x (α:=SourceID) (vs:=[]) (cs:=[]) (xs:=([]:List SourceID)) s d El60 rfl rfl rfl rfl rfl rfl rfl rfl trivial fun p9 a w s d=>?_))
 refine mv s rfl rfl fun a s=>?_
 obtain ⟨l11,h10,u⟩:=bt u
 refine P9 (α:=SourceID) s d El60 0 rfl rfl rfl 0 rfl 1 rfl h10 rfl trivial ?_
 intro p12 k13 c14 a w s d
 refine rz0 1 s rfl fun a s=>?_
 obtain rfl:=oi u
 exact q1 s rfl (d.ret ⟨p12,k13,c14,rfl,(d.outs [0] (by decide) rfl),(d.envAt 0 rfl)⟩)
end Go.Proofs.YteanekphncdhiaaGreat.Wk
namespace Go.Proofs
open Go Go.Shelf Go.RowKit Go.Lib Go.Sort
def Tryz.sort105_ren:Go.Shelf.Ren:=⟨fun | 6=>105 | 15=>132 | 14=>134 | 28=>157 | 29=>158 | 20=>160 | 21=>161 | 22=>162 | 23=>163 | 24=>164 | 25=>165 | 26=>166 | 27=>167 | 46=>188 | 47=>184 | 48=>185 | 49=>189 | 50=>190 | 57=>197 | n=>n,fun | 22=>60 | 24=>32 | 25=>116 | 3=>3 | 39=>165 | 0=>0 | 53=>188 | 55=>190 | 4=>4 | 46=>182 | 45=>181 | 50=>101 | 5=>5 | 9=>9 | 66=>204 | 70=>208 | 76=>216 | 77=>127 | n=>n,fun | n=>n⟩
theorem Tryz.sort105:Go.Proofs.SlLaysF0.n6 Tryz.prog Tryz.sort105_ren where
  mixed:=by kernel_rfl
  f6:=⟨Tryz.f105.name,by decide,Tryz.func105.trans (congrArg some (by kernel_rfl))⟩
  f14:=⟨Tryz.f134.name,by decide,Tryz.func134.trans (congrArg some (by kernel_rfl))⟩
  f15:=Tryz.func132.trans (congrArg some (by kernel_rfl))
  f20:=⟨Tryz.f160.name,by decide,Tryz.func160.trans (congrArg some (by kernel_rfl))⟩
  f21:=⟨Tryz.f161.name,by decide,Tryz.func161.trans (congrArg some (by kernel_rfl))⟩
  f22:=⟨Tryz.f162.name,by decide,Tryz.func162.trans (congrArg some (by kernel_rfl))⟩
  f23:=⟨Tryz.f163.name,by decide,Tryz.func163.trans (congrArg some (by kernel_rfl))⟩
  f24:=⟨Tryz.f164.name,by decide,Tryz.func164.trans (congrArg some (by kernel_rfl))⟩
  f25:=⟨Tryz.f165.name,by decide,Tryz.func165.trans (congrArg some (by kernel_rfl))⟩
  f26:=⟨Tryz.f166.name,by decide,Tryz.func166.trans (congrArg some (by kernel_rfl))⟩
  f27:=⟨Tryz.f167.name,by decide,Tryz.func167.trans (congrArg some (by kernel_rfl))⟩
  f28:=Tryz.func157.trans (congrArg some (by kernel_rfl))
  f29:=Tryz.func158.trans (congrArg some (by kernel_rfl))
  f46:=⟨Tryz.f188.name,by decide,Tryz.func188.trans (congrArg some (by kernel_rfl))⟩
  f47:=Tryz.func184.trans (congrArg some (by kernel_rfl))
  f48:=Tryz.func185.trans (congrArg some (by kernel_rfl))
  f49:=⟨Tryz.f189.name,by decide,Tryz.func189.trans (congrArg some (by kernel_rfl))⟩
  f50:=⟨Tryz.f190.name,by decide,Tryz.func190.trans (congrArg some (by kernel_rfl))⟩
  f57:=⟨Tryz.f197.name,by decide,Tryz.func197.trans (congrArg some (by kernel_rfl))⟩
  t0:=Tryz.underlying0
  a0:=Tryz.isAgg0
  z0:=Tryz.sizeOf0
  v0:=Tryz.zeroValue0
  t3:=Tryz.underlying3
  a3:=Tryz.isAgg3
  z3:=Tryz.sizeOf3
  v3:=Tryz.zeroValue3
  t4:=Tryz.underlying4
  a4:=Tryz.isAgg4
  z4:=Tryz.sizeOf4
  v4:=Tryz.zeroValue4
  t5:=Tryz.underlying5
  a5:=Tryz.isAgg5
  z5:=Tryz.sizeOf5
  v5:=Tryz.zeroValue5
  t9:=Tryz.underlying9
  a9:=Tryz.isAgg9
  z9:=Tryz.sizeOf9
  v9:=Tryz.zeroValue9
  t22:=Tryz.underlying60
  a22:=Tryz.isAgg60
  z22:=Tryz.sizeOf60
  v22:=Tryz.zeroValue60
  t25:=Tryz.underlying116
  a25:=Tryz.isAgg116
  z25:=Tryz.sizeOf116
  v25:=Tryz.zeroValue116
  t39:=Tryz.underlying165
  a39:=Tryz.isAgg165
  z39:=Tryz.sizeOf165
  v39:=Tryz.zeroValue165
  t45:=Tryz.underlying181
  a45:=Tryz.isAgg181
  z45:=Tryz.sizeOf181
  v45:=Tryz.zeroValue181
  t46:=Tryz.underlying182
  a46:=Tryz.isAgg182
  z46:=Tryz.sizeOf182
  v46:=Tryz.zeroValue182
  t50:=Tryz.underlying101
  a50:=Tryz.isAgg101
  z50:=Tryz.sizeOf101
  v50:=Tryz.zeroValue101
  t53:=Tryz.underlying188
  a53:=Tryz.isAgg188
  z53:=Tryz.sizeOf188
  v53:=Tryz.zeroValue188
  t55:=Tryz.underlying190
  a55:=Tryz.isAgg190
  z55:=Tryz.sizeOf190
  v55:=Tryz.zeroValue190
  t66:=Tryz.underlying204
  a66:=Tryz.isAgg204
  z66:=Tryz.sizeOf204
  v66:=Tryz.zeroValue204
  t70:=Tryz.underlying208
  a70:=Tryz.isAgg208
  z70:=Tryz.sizeOf208
  v70:=Tryz.zeroValue208
  t76:=Tryz.underlying216
  a76:=Tryz.isAgg216
  z76:=Tryz.sizeOf216
  v76:=Tryz.zeroValue216
  t77:=Tryz.underlying127
  a77:=Tryz.isAgg127
  z77:=Tryz.sizeOf127
  v77:=Tryz.zeroValue127
end Go.Proofs
namespace Go.Proofs.YteanekphncdhiaaGreat.Wk
open Go Go.RowKit Go.Proofs Go.Proofs.YteanekphncdhiaaGreat.Sh Go.Proofs.Tryz
set_option linter.unusedVariables false
set_option linter.unusedSimpArgs false
abbrev a0E (w0:World) (X:List Nat) (p2:Option Addr) (k3:Nat) (x1:(List SourceID)) (r:(List SourceID)):(Nat→Prop)→World→Value→Prop:=fun S w v=>∃ ck_0,v=.tuple #[]∧Outs X w0 S w [.row p2 r.length k3 ck_0 32 4]∧(j6 ck_0 r).p S w∧(a2b x1.length r).p S w
theorem a0D {w0 S0 p2 k3 c4 g7 cp9 x1} {cmp6:SourceID→SourceID→Option Int} {r} (u:N9 x1 cmp6=some r) (hS:Dm S0 w0) (hin:Ins S0 w0 [.row p2 x1.length k3 c4 32 4]) (h5:(j6 c4 x1).p S0 w0) (h10:(a6G Tryz.prog g7 [] cp9 cmp6).p S0 w0):Calls Tryz.prog 105 #[sl p2 k3 x1,.func (.func g7) #[] cp9.toArray] w0 (Ret (H8 [.row p2 x1.length k3 c4 32 4]) w0 S0 (a0E w0 (H8 [.row p2 x1.length k3 c4 32 4]) p2 k3 x1 r)):=by
 exact b1H (α:=SourceID) (T:=32) Tryz.sort105 isAgg32 sizeOf32 (fun _=>rfl) (by decide) (fun d=>(C32 d)) (by rintro S w cs d ⟨_,_,_,_,rfl,rfl,rfl,rfl,rfl⟩;rfl) u hS hin h5 h10
theorem a9d (S0:Nat→Prop) (w0:World):(a6G Tryz.prog 92 [] [] V4).p S0 w0:=by
  refine ⟨call92,?_⟩
  rintro S1 w1 hk hS c0 c1 x0 x1 r1 ⟨_,_,_,_,rfl,rfl,rfl,rfl,rfl⟩ h1 hf
  obtain ⟨_,_,_,_,rfl,rfl,rfl,rfl,rfl⟩:=h1
  exact a3S hf hS
theorem a0Y {w0 S0 p2 k3 c4 s1 r} (u:O0 s1=some r) (hS:Dm S0 w0) (hin:Ins S0 w0 [.row p2 s1.length k3 c4 32 4]) (h5:(j6 c4 s1).p S0 w0):Ck Tryz.prog 106 #[sl p2 k3 s1] w0 S0 (H8 [.row p2 s1.length k3 c4 32 4]) M9 r:=by
 refine enI 61 func106 rfl hS hin rfl rfl rfl fun a s d=>?_
 have d:=(d.addE h5).addE (e:=a2b s1.length s1) a5q
 refine sz0 1 s rfl fun a s=>?_
 refine wp_seq (sz0 3 s rfl fun a s=>?_)
 refine cd s u rfl (fun u=>?_) fun u=>?_
 ·refine sz0 2 s rfl fun a s=>?_
  obtain rfl:=oi u
  exact wp_ret (j3 (rt s rfl (d.ret ⟨p2,k3,c4,rfl,(d.outs [0] (by decide) rfl),(d.envAt 1 rfl)⟩)))
 refine sk (wp_seq (sz0 1 s rfl fun a s=>?_))
 refine wp_block (u7 (fun sv628 a w=>∃ Sv1040,Sl 61 [(0,sl p2 k3 s1),(3,iv sv628)] a∧Wd ⟨w0,S0,H8 [.row p2 s1.length k3 c4 32 4]⟩ Sv1040 [.row p2 s1.length k3 c4 32 4] [j6 c4 s1,a2b s1.length s1] w) 1 u ⟨S0,wj s d [0] [1,0]⟩ ?_)
 repeat clear u
 rintro sv628 a w tv1247 ⟨Sv1040,s,d⟩ u hd1246
 refine wp_seq (sz0 4 s rfl fun a s=>?_)
 refine cd s u rfl (fun u=>?_) fun u=>?_
 ·refine sk (wp_seq (wp_block (wp_seq ?_)))
  obtain ⟨x1456,h1454,u⟩:=bt u
  obtain ⟨b1463,q1460,c1461,h1464,h1457,h1458,h1462,h1455⟩:=d.elemRV (α:=SourceID) 0 rfl 0 rfl h1454
  have hsv1465:=s
  have hwv1466:=d
  subst h1464
  have s:=hsv1465
  have d:=hwv1466
  obtain ⟨_,_,_,_,rfl,rfl,rfl,rfl,rfl⟩:=h1455
  obtain ⟨x1469,h1467,u⟩:=bt u
  obtain ⟨q1473,c1474,h1470,h1471,h1475,h1468⟩:=d.elemRK (α:=SourceID) 0 rfl 0 rfl h1467
  obtain ⟨_,_,_,_,rfl,rfl,rfl,rfl,rfl⟩:=h1468
  refine y9 (fun a w=>∃ Sv1476,Sl 61 [(0,sl (ad b1463) k3 s1),(3,iv sv628),(25,.bool ((x1456.Network == x1469.Network) && ((x1456.Station == x1469.Station) && ((x1456.Location == x1469.Location) && ((x1456.Channel == x1469.Channel) && true)))))] a∧Wd ⟨w0,S0,H8 [.row (ad b1463) s1.length k3 c4 32 4]⟩ Sv1476 [.row (ad b1463) s1.length k3 c4 32 4] [j6 c4 s1,a2b s1.length s1] w) ?_ ?_
  ·refine h_c [0] [] d rfl rfl (by kernel_rfl) rfl fun hC d=>?_
   refine gn 2 [0,1] [] s hC rfl rfl rfl fun a s=>?_
   refine gx s 2 rfl trivial rfl hC runUnderlying60 sizeOf32 rfl rfl h1457 h1458 fun a s=>?_
   refine gv s 3 rfl rfl hC (fun w hC=>Q0 (j:=0) (hC.ownAt 0 rfl) rfl isAgg32 sizeOf32 h1462 rfl rfl) fun a s=>?_
   refine gn 3 [4,5,6] [] s hC rfl rfl rfl fun a s=>?_
   refine gx s 7 rfl trivial rfl hC runUnderlying60 sizeOf32 rfl rfl h1470 h1471 fun a s=>?_
   refine gv s 8 rfl rfl hC (fun w hC=>Q0 (j:=0) (hC.ownAt 0 rfl) rfl isAgg32 sizeOf32 h1475 rfl rfl) fun a s=>?_
   refine gv s 9 rfl rfl hC (fun w hC=>a1Q (by kernel_rfl) rfl rfl (P6 runUnderlying32 (by kernel_rfl) (EqF.cons1 rfl isAgg9 rfl rfl (J3 runUnderlying9) (EqF.cons1 rfl isAgg9 rfl rfl (J3 runUnderlying9) (EqF.cons1 rfl isAgg9 rfl rfl (J3 runUnderlying9) (EqF.cons1 rfl isAgg9 rfl rfl (J3 runUnderlying9) EqF.nil)))))) fun a s=>?_
   refine x8 (by kernel_rfl) ?_
   exact ⟨Sv1040,wj s d [0] [0,1]⟩
  rintro a w ⟨Sv1476,s,d⟩
  refine tn (cd s u rfl (fun u=>?_) fun u=>?_)
  ·refine sn0 2 s rfl fun a s=>?_
   obtain ⟨l1661,h1657,u⟩:=bt u
   obtain ⟨o1659,k1660,h1658⟩:=b3J (α:=SourceID) d 0 rfl h1657
   refine sv s (R9 runUnderlying60 sizeOf32 rfl ⟨_,rfl⟩ (by exact rfl) h1658) rfl fun a s=>?_
   refine rz0 1 s rfl fun a s=>?_
   refine wp_seq (sz0 1 s rfl fun a s=>?_)
   obtain ⟨e1817,h1958,u⟩:=bt u
   refine x9 (fun a w=>∃ c1818 Sv1819,Sl 61 [(0,sl (ad b1463) k3 e1817.1),(3,iv e1817.2)] a∧Wd ⟨w0,S0,H8 [.row (ad b1463) s1.length k3 c4 32 4]⟩ Sv1819 [.row (ad b1463) e1817.1.length k3 c1818 32 4] [j6 c1818 e1817.1,a2b s1.length e1817.1] w) ?_ ?_
   ·refine wp_block (u7 (fun sv1662 a w=>∃ c1763 Sv1764,Sl 61 [(0,sl (ad b1463) k3 sv1662.1),(3,iv sv1662.2.1),(4,sl (some ⟨b1463,o1659,none⟩) k1660 l1661),(5,iv sv1662.2.2)] a∧Wd ⟨w0,S0,H8 [.row (ad b1463) s1.length k3 c4 32 4]⟩ Sv1764 [.row (ad b1463) sv1662.1.length k3 c1763 32 4] [j6 c1763 sv1662.1,a2b s1.length sv1662.1] w) (s1,sv628,1) h1958 ⟨c4,Sv1476,wj s d [0] [0,1]⟩ ?_)
    clear h1958
    repeat clear u
    rintro sv1662 a w tv1815 ⟨c1763,Sv1764,s,d⟩ u hd1814
    refine wp_seq (sz0 4 s rfl fun a s=>?_)
    refine cd s u rfl (fun u=>?_) fun u=>?_
    ·refine sk (wp_seq (wp_block (wp_seq ?_)))
     obtain ⟨x1875,h1868,u⟩:=bt u
     obtain ⟨q1873,c1874,h1870,h1871,h1872,h1869⟩:=d.elemLK (α:=SourceID) 0 rfl 0 rfl h1658 h1868
     obtain ⟨_,_,_,_,rfl,rfl,rfl,rfl,rfl⟩:=h1869
     obtain ⟨x1883,h1876,u⟩:=bt u
     obtain ⟨q1881,c1882,h1878,h1879,h1880,h1877⟩:=d.elemLK (α:=SourceID) 0 rfl 0 rfl h1658 h1876
     obtain ⟨_,_,_,_,rfl,rfl,rfl,rfl,rfl⟩:=h1877
     refine y9 (fun a w=>∃ Sv1884,Sl 61 [(0,sl (ad b1463) k3 sv1662.1),(3,iv sv1662.2.1),(4,sl (some ⟨b1463,o1659,none⟩) k1660 l1661),(5,iv sv1662.2.2),(44,.bool (!((x1875.Network == x1883.Network) && ((x1875.Station == x1883.Station) && ((x1875.Location == x1883.Location) && ((x1875.Channel == x1883.Channel) && true))))))] a∧Wd ⟨w0,S0,H8 [.row (ad b1463) s1.length k3 c4 32 4]⟩ Sv1884 [.row (ad b1463) sv1662.1.length k3 c1763 32 4] [j6 c1763 sv1662.1,a2b s1.length sv1662.1] w) ?_ ?_
     ·refine h_c [0] [] d rfl rfl (by kernel_rfl) rfl fun hC d=>?_
      refine gn 2 [0,1] [] s hC rfl rfl rfl fun a s=>?_
      refine gx s 2 rfl trivial rfl hC runUnderlying60 sizeOf32 rfl rfl h1870 h1871 fun a s=>?_
      refine gv s 3 rfl rfl hC (fun w hC=>Q0 (j:=0) (hC.ownAt 0 rfl) rfl isAgg32 sizeOf32 h1872 rfl rfl) fun a s=>?_
      refine gn 3 [4,5,6] [] s hC rfl rfl rfl fun a s=>?_
      refine gx s 7 rfl trivial rfl hC runUnderlying60 sizeOf32 rfl rfl h1878 h1879 fun a s=>?_
      refine gv s 8 rfl rfl hC (fun w hC=>Q0 (j:=0) (hC.ownAt 0 rfl) rfl isAgg32 sizeOf32 h1880 rfl rfl) fun a s=>?_
      refine gv s 9 rfl rfl hC (fun w hC=>a7v (by kernel_rfl) rfl rfl (P6 runUnderlying32 (by kernel_rfl) (EqF.cons1 rfl isAgg9 rfl rfl (J3 runUnderlying9) (EqF.cons1 rfl isAgg9 rfl rfl (J3 runUnderlying9) (EqF.cons1 rfl isAgg9 rfl rfl (J3 runUnderlying9) (EqF.cons1 rfl isAgg9 rfl rfl (J3 runUnderlying9) EqF.nil)))))) fun a s=>?_
      refine x8 (by kernel_rfl) ?_
      exact ⟨Sv1764,wj s d [0] [0,1]⟩
     rintro a w ⟨Sv1884,s,d⟩
     refine tn (x9 (fun a w=>∃ (sv1912:(List SourceID)) (k1913:Int) (c1910 Sv1911:_),M3 sv1662 sv1912 k1913=some tv1815∧Sl 61 [(0,sl (ad b1463) k3 sv1912),(3,iv k1913),(4,sl (some ⟨b1463,o1659,none⟩) k1660 l1661),(5,iv sv1662.2.2)] a∧Wd ⟨w0,S0,H8 [.row (ad b1463) s1.length k3 c4 32 4]⟩ Sv1911 [.row (ad b1463) sv1912.length k3 c1910 32 4] [j6 c1910 sv1912,a2b s1.length sv1912] w) ?_ ?_)
     ·refine cd s u rfl (fun u=>?_) fun u=>?_
      ·refine sn0 4 s rfl fun a s=>?_
       obtain ⟨x1924,h1917,u⟩:=bt u
       obtain ⟨q1922,c1923,h1919,h1920,h1921,h1918⟩:=d.elemLK (α:=SourceID) 0 rfl 0 rfl h1658 h1917
       obtain ⟨_,_,_,_,rfl,rfl,rfl,rfl,rfl⟩:=h1918
       refine sv s (o8 runUnderlying60 sizeOf32 rfl rfl h1919.1 h1919.2 h1920) rfl fun a s=>?_
       refine sv s (Q0 (j:=0) (d.ownAt 0 rfl) rfl isAgg32 sizeOf32 h1921 rfl rfl) rfl fun a s=>?_
       obtain ⟨x1927,h1925,u⟩:=bt u
       obtain ⟨q1931,c1932,h1928,h1929,h1933,h1926⟩:=d.elemRK (α:=SourceID) 0 rfl 0 rfl h1925
       obtain ⟨_,_,_,_,rfl,rfl,rfl,rfl,rfl⟩:=h1926
       refine sv s (o8 runUnderlying60 sizeOf32 rfl rfl h1928.1 h1928.2 h1929) rfl fun a s=>?_
       obtain ⟨l1935,h1934,u⟩:=bt u
       have h1938:=d.envAt 1 rfl
       refine a5k (α:=SourceID) s d 0 rfl 0 rfl h1929 rfl rfl sizeOf32 rfl h1934 ⟨_,_,_,_,rfl,rfl,rfl,rfl,rfl⟩ trivial ?_
       intro c1936 a w s d
       have d:=d.addE (e:=a2b s1.length l1935) (b4j (w:=w) (S:=S0) h1938 h1934)
       have h1937:=Y0 h1934
       try have s:=s.fl 0 rfl h1937
       try have s:=s.fl 45 rfl h1937
       refine nl (wp_region_lit (rn0 2 s rfl fun a s=>?_))
       obtain ⟨k1940,h1939,u⟩:=bt u
       refine sv s (q8 rfl h1939) rfl fun a s=>?_
       exact nl ⟨l1935,k1940,c1936,Sv1884,u,wj s d [0] [1,0]⟩
      exact sk ⟨sv1662.1,sv1662.2.1,c1763,Sv1884,u,wj s d [0] [0,1]⟩
     rintro a w ⟨sv1912,k1913,c1910,Sv1911,u,s,d⟩
     refine l9 (tn (wp_region_lit (rn0 2 s rfl fun a s=>?_)))
     obtain ⟨k2_1915,h1914,u⟩:=bt u
     refine sv s (q8 rfl h1914) rfl fun a s=>?_
     exact nl ⟨_,io u,c1910,Sv1911,wj s d [0] [0,1]⟩
    refine wp_exit (j4 (j4 (o9 ?_)))
    obtain rfl:=oi u
    have h1941:=hd1814 _ rfl
    subst h1941
    exact tn ⟨c1763,Sv1764,wj s d [0] [0,1]⟩
   rintro a w ⟨c1818,Sv1819,s,d⟩
   refine tn (sn0 2 s rfl fun a s=>?_)
   obtain ⟨l1946,h1942,u⟩:=bt u
   obtain ⟨p1944,k1945,h1943⟩:=U7 (α:=SourceID) d 0 rfl h1942
   refine sv s (R9 runUnderlying60 sizeOf32 rfl ⟨_,rfl⟩ (by exact rfl) h1943) rfl fun a s=>?_
   obtain ⟨l1947,h1948,u⟩:=bt u
   have h1953:=d.envAt 1 rfl
   refine a9f (α:=SourceID) (z0:=((⟨ByteArray.empty,ByteArray.empty,ByteArray.empty,ByteArray.empty⟩:SourceID):SourceID)) s d 0 rfl 0 rfl El60 ⟨_,_,_,_,rfl,rfl,rfl,rfl,rfl⟩ h1942 h1943 rfl trivial ?_
   intro c1949 a w s d
   rw [Option.some.inj h1948] at d
   have d:=d.addE (e:=a2b s1.length l1947) (by have q:=b2O (w:=w) (S:=S0) (S':=S0) (w':=w) (ys:=List.replicate l1946.length ((⟨ByteArray.empty,ByteArray.empty,ByteArray.empty,ByteArray.empty⟩:SourceID):SourceID)) h1953 h1942;rw [Option.some.inj h1948] at q;exact q)
   have h1950:=(a4U h1942 h1948)
   try have s:=s.fl 0 rfl h1950
   try have s:=s.fl 54 rfl h1950
   refine nl (sn0 2 s rfl fun a s=>?_)
   obtain ⟨l1956,h1954,u⟩:=bt u
   obtain ⟨d,h1955⟩:=b0U d 0 rfl 1 rfl h1954
   refine sv s (R9 runUnderlying60 sizeOf32 rfl (by exact rfl) ⟨_,rfl⟩ h1955) rfl fun a s=>?_
   refine rz0 1 s rfl fun a s=>?_
   obtain rfl:=oi u
   have h1957:=hd1246 _ rfl
   subst h1957
   exact wp_ret (r9 (j3 (j3 (r9 (j3 (rt s rfl (d.ret ⟨(ad b1463),k3,(c1949.take (l1956.length * 4)),rfl,(d.outs [0] (by decide) rfl),(d.envAt 0 rfl)⟩)))))))
  refine wp_skip (l9 (tn (wp_region_lit (rn0 2 s rfl fun a s=>?_))))
  obtain ⟨k1960,h1959,u⟩:=bt u
  refine sv s (q8 rfl h1959) rfl fun a s=>?_
  exact nl ⟨_,io u,Sv1476,wj s d [0] [0,1]⟩
 obtain ⟨rv1961,u,h1962⟩:=Y7 u
 have h1962:=(hd1246 _ h1962.symm).symm
 subst h1962
 refine wp_exit (j4 (j4 (o9 (tn (sz0 2 s rfl fun a s=>?_)))))
 obtain rfl:=oi u
 exact q1 s rfl (d.ret ⟨p2,k3,c4,rfl,(d.outs [0] (by decide) rfl),(d.envAt 0 rfl)⟩)
theorem b0M {w0 S0 p2 k3 l1 r} (u:a5u l1=some r) (hS:Dm S0 w0) (h4:(Sq p2 k3 l1).p S0 w0):Ck Tryz.prog 57 #[sl p2 k3 l1] w0 S0 [] M9 r:=by
 refine en 10 func57 rfl hS rfl rfl rfl fun a s d=>?_
 have d:=d.addE h4
 refine sz0 1 s rfl fun a s=>?_
 refine sn0 1 s rfl fun a s=>?_
 obtain ⟨rv6,h5,u⟩:=bt u
 refine cR s (a1u h5 d.dom (d.envAt 0 rfl)) (d9 call104 rfl) rfl ?_
 rintro v14 Sv11 w a h12 ⟨p7,k8,c10,rfl,h15,h9⟩ s
 have d:=(d.callN h12 h15).addE (e:=j6 c10 rv6) h9
 refine rz0 1 s rfl fun a s=>?_
 refine sn0 1 s rfl fun a s=>?_
 obtain ⟨rv18,h17,u⟩:=bt u
 refine cR s (a0D h17 d.dom (d.ins [0] (by decide) rfl) (d.envAt 0 rfl) (a9d _ _)) (d9 call105 rfl) rfl ?_
 rintro v25 Sv22 w a h23 ⟨c19,rfl,h26,h20,h21⟩ s
 have d:=(d.callO [0] [] (by decide) rfl h23 h26).addE (e:=j6 c19 rv18) h20
 have h28:=h21
 have h29:=Eq.symm h28
 try have s:=s.fl 3 rfl h29
 try have s:=s.fl 6 rfl h29
 refine nl (sn0 1 s rfl fun a s=>?_)
 obtain ⟨rv31,h30,u⟩:=bt u
 refine cR s (a0Y h30 d.dom (d.ins [0] (by decide) rfl) (d.envAt 0 rfl)) (d9 call106 rfl) rfl ?_
 rintro v39 Sv36 w a h37 ⟨p32,k33,c35,rfl,h40,h34⟩ s
 have d:=(d.callO [0] [] (by decide) rfl h37 h40).addE (e:=j6 c35 rv31) h34
 refine rz0 1 s rfl fun a s=>?_
 obtain rfl:=oi u
 exact q1 s rfl (d.ret ⟨p32,k33,c35,rfl,(d.outs [0] (by decide) rfl),(d.envAt 0 rfl)⟩)
abbrev a8I (w0:World) (X:List Nat) (r:(Channel × Bool)):Rd:=fun S w v=>∃ p0_4 k0_4 c0_4,v=.tuple #[V73 r.1 p0_4 k0_4,.bool r.2]∧Outs X w0 S w [.row p0_4 r.1.Epochs.length k0_4 c0_4 41 8]∧(j6 c0_4 r.1.Epochs).p S w
theorem a5p {w0 S0 p2 k3 inv1 s5 r} (u:a2c inv1 s5=some r) (hS:Dm S0 w0) (h4:(Sq p2 k3 inv1.Channels).p S0 w0):Ck Tryz.prog 58 #[.agg #[sl p2 k3 inv1.Channels],V32 s5] w0 S0 [] a8I r:=by
 refine en 23 func58 rfl hS rfl rfl rfl fun a s d=>?_
 have d:=d.addE h4
 refine sr (wb [sl p2 k3 inv1.Channels] s d rfl fun b6 a w s d=>?_)
 refine wb (C32 s5) s d rfl fun b7 a w s d=>?_
 refine wa Z2 s d zeroValue73 fun b8 a w s d=>?_
 refine rz0 1 s rfl fun a s=>?_
 refine wp_seq (sz 4 [2] s d rfl rfl fun a s=>?_)
 refine wp_block ?_
 have d:=d.addE (e:=SlA (α:=Epoch) none 0 0 []) M8
 refine u7 (fun sv110 a w=>∃ Sv176,Sl 23 [(3,pt b7),(4,pt b8),(9,sl p2 k3 inv1.Channels),(10,iv (inv1.Channels.length:Int)),(11,iv sv110)] a∧Wd ⟨w0,S0,[]⟩ Sv176 [.box b7 (C32 s5) 32,.box b8 Z2 73] [Sq p2 k3 inv1.Channels,Sq none 0 ([]:List Epoch)] w) 0 u ⟨S0,wj s d [1,0] [1,0]⟩ ?_
 repeat clear u
 rintro sv110 a w tv210 ⟨Sv176,s,d⟩ u hd209
 refine sz0 1 s rfl fun a s=>?_
 refine wp_seq (cd s u rfl (fun u=>?_) fun u=>?_)
 ·refine sk (wp_seq (wp_block (sr ?_)))
  obtain ⟨x248,h246,u⟩:=bt u
  obtain ⟨b254,o255,q252,c253,h256,h249,h250,h251,h247⟩:=d.elemV 0 rfl h246
  have hsv257:=s
  have hwv258:=d
  subst h256
  have s:=hsv257
  have d:=hwv258
  obtain ⟨_,_,_,_,_,rfl,rfl,rfl,rfl,rfl,⟨p259,n260,k261,rfl,h262⟩⟩:=h247
  obtain rfl:=h262.1
  have d:=(d.addE (e:=SlA p259 _ k261 x248.Epochs) h262).addE h251
  refine sv s (o8 runUnderlying27 sizeOf73 rfl rfl h249.1 h249.2 h250) rfl fun a s=>?_
  refine sv s (D9 (j:=0) (d.ceAt 0 rfl) rfl isAgg73 sizeOf73 rfl rfl) rfl fun a s=>?_
  refine wa Z2 s d zeroValue73 fun b263 a w s d=>?_
  refine ws (C73 x248 p259 k261) s d 0 rfl rfl rfl sizeOf73 fun a w s d=>?_
  refine nl (sn 3 [0,1] s d rfl rfl fun a s=>?_)
  refine sv s (a1Q (by kernel_rfl) rfl rfl (P6 runUnderlying32 (by kernel_rfl) (EqF.cons1 rfl isAgg9 rfl rfl (J3 runUnderlying9) (EqF.cons1 rfl isAgg9 rfl rfl (J3 runUnderlying9) (EqF.cons1 rfl isAgg9 rfl rfl (J3 runUnderlying9) (EqF.cons1 rfl isAgg9 rfl rfl (J3 runUnderlying9) EqF.nil)))))) rfl fun a s=>?_
  refine nl (cd s u rfl (fun u=>?_) fun u=>?_)
  ·refine sn 1 [0] s d rfl rfl fun a s=>?_
   obtain ⟨rv279,h278,u⟩:=bt u
   refine cR s (a2D h278 d.dom (d.envAt 1 rfl)) (d9 call89 rfl) rfl ?_
   rintro v287 Sv284 w a h285 ⟨p280,k281,c283,rfl,h288,h282⟩ s
   have d:=(d.callN h285 h288).addE (e:=j6 c283 rv279.Epochs) h282
   refine ws (C73 rv279 p280 k281) s d 3 rfl rfl rfl sizeOf73 fun a w s d=>?_
   refine rz0 1 s rfl fun a s=>?_
   obtain rfl:=oi u
   have h290:=hd209 _ rfl
   subst h290
   exact wp_ret (r9 (j3 (j3 (r9 (j3 (a1p s rfl (F7 d 3 rfl rfl isAgg73 sizeOf73 rfl) (H7 rfl) (d.ret ⟨p280,k281,c283,rfl,(d.outs [0] (by decide) rfl),(d.envAt 0 rfl)⟩)))))))
  refine wp_skip (l9 (tn (wp_region_lit (rz0 2 s rfl fun a s=>?_))))
  exact ⟨_,io u,Sv176,wj s d [1,2] [2,3]⟩
 obtain ⟨rv291,u,h292⟩:=Y7 u
 have h292:=(hd209 _ h292.symm).symm
 subst h292
 refine wp_exit (j4 (j4 (o9 (tn (sr (sv s (z8 (vs:=[]) b2v rfl rfl) rfl fun a s=>?_))))))
 refine ws Z2 s d 1 rfl rfl rfl sizeOf73 fun a w s d=>?_
 refine rz0 1 s rfl fun a s=>?_
 obtain rfl:=oi u
 have d:=d.nilRow Epoch 41
 exact wp_ret (a1p s rfl (F7 d 2 rfl rfl isAgg73 sizeOf73 rfl) (H7 rfl) (d.ret ⟨none,0,[],rfl,(d.outs [0] (by decide) rfl),(d.envAt 0 rfl)⟩))
theorem a2z {w0 S0 n1 r} (u:N8 n1=some r) (hS:Dm S0 w0):Ck Tryz.prog 135 #[.slice none 0 0,iv n1] w0 S0 [] H9 r:=by
 refine en 27 func135 rfl hS rfl rfl rfl fun a s d=>?_
 refine sz0 1 s rfl fun a s=>?_
 refine wp_seq (sz0 2 s rfl fun a s=>?_)
 refine cd s u rfl (fun u=>?_) fun u=>?_
 ·cases u
 refine sk (wp_seq (sn0 2 s rfl fun a s=>?_))
 refine sv s (b3j runUnderlying71 rfl) rfl fun a s=>?_
 refine rn0 4 s rfl fun a s=>?_
 obtain ⟨n5,h4,u⟩:=bt u
 refine sv s (q8 rfl h4) rfl fun a s=>?_
 refine nl (sz0 2 s rfl fun a s=>?_)
 refine x9 (fun a w=>∃ (sv23:(List Epoch)) (c19 p20 k21 Sv22:_),K7 sv23=some r∧Sl 27 [(0,sl p20 k21 sv23)] a∧Wd ⟨w0,S0,[]⟩ Sv22 [.row p20 sv23.length k21 c19 41 8] [j6 c19 sv23] w) ?_ ?_
 ·refine cd s u rfl (fun u=>?_) fun u=>?_
  ·refine wp_region_lit (rn0 2 s rfl fun a s=>?_)
   refine sv s (b3j runUnderlying71 rfl) rfl fun a s=>?_
   obtain ⟨l28,h25,u⟩:=bt u
   obtain ⟨h26,h27⟩:=b4r 8 h25
   subst h26
   refine sv s (R9 runUnderlying71 sizeOf41 rfl (by exact rfl) ⟨_,rfl⟩ h27) rfl fun a s=>?_
   refine mv s rfl rfl fun a s=>?_
   obtain ⟨l30,h29,u⟩:=bt u
   refine b0T (α:=Epoch) (z0:=((⟨0,0,(⟨0,0⟩:Rate),(⟨0,0,0⟩:Position),(⟨([]:List Stage)⟩:Response)⟩:Epoch):Epoch)) s d a5I ⟨_,_,_,_,_,_,_,_,rfl,rfl,rfl,rfl,rfl,rfl,rfl,rfl,⟨none,0,0,rfl,M8⟩⟩ underlying3 rfl rfl h29 rfl rfl trivial ?_
   intro p31 k32 c33 a w s d
   refine rn0 2 s rfl fun a s=>?_
   obtain ⟨l36,h34,u⟩:=bt u
   obtain ⟨d,h35⟩:=b0U d 0 rfl 0 rfl h34
   refine sv s (R9 runUnderlying71 sizeOf41 rfl (by exact rfl) ⟨_,rfl⟩ h35) rfl fun a s=>?_
   refine rz0 1 s rfl fun a s=>?_
   exact ⟨l36,(c33.take (l36.length * 8)),p31,k32,S0,u,wj s d [0] [0]⟩
  refine sk ?_
  have d:=d.nilRow Epoch 41
  exact ⟨([]:List Epoch),[],none,0,S0,u,wj s d [0] [0]⟩
 rintro a w ⟨sv23,c19,p20,k21,Sv22,u,s,d⟩
 refine tn (sz0 2 s rfl fun a s=>?_)
 obtain rfl:=oi u
 exact q1 s rfl (d.ret ⟨p20,k21,c19,rfl,(d.outs [0] (by decide) rfl),(d.envAt 0 rfl)⟩)
theorem a2x {w0 S0 p2 k3 slices1 r} (u:N7 slices1=some r) (hS:Dm S0 w0) (h4:(Sq p2 k3 slices1).p S0 w0):Ck Tryz.prog 107 #[sl p2 k3 slices1] w0 S0 [] H9 r:=by
 refine en 36 func107 rfl hS rfl rfl rfl fun a s d=>?_
 have d:=d.addE h4
 refine sz0 1 s rfl fun a s=>?_
 refine sz0 1 s rfl fun a s=>?_
 refine wp_seq (sz0 3 s rfl fun a s=>?_)
 obtain ⟨e74,h266,u⟩:=bt u
 refine x9 (fun a w=>∃ Sv75,Sl 36 [(0,sl p2 k3 slices1),(3,iv e74)] a∧Wd ⟨w0,S0,[]⟩ Sv75 [] [Sq p2 k3 slices1] w) ?_ ?_
 ·refine wp_block (u7 (fun sv5 a w=>∃ Sv49,Sl 36 [(0,sl p2 k3 slices1),(3,iv sv5.1),(9,sl p2 k3 slices1),(10,iv (slices1.length:Int)),(11,iv sv5.2)] a∧Wd ⟨w0,S0,[]⟩ Sv49 [] [Sq p2 k3 slices1] w) (0,0) h266 ⟨S0,wj s d [] [0]⟩ ?_)
  clear h266
  repeat clear u
  rintro sv5 a w tv72 ⟨Sv49,s,d⟩ u hd71
  refine sz0 1 s rfl fun a s=>?_
  refine wp_seq (cd s u rfl (fun u=>?_) fun u=>?_)
  ·refine sk (wp_seq (wp_block (sr ?_)))
   obtain ⟨x100,h98,u⟩:=bt u
   obtain ⟨b106,o107,q104,c105,h108,h101,h102,h103,h99⟩:=d.elemV 0 rfl h98
   have hsv109:=s
   have hwv110:=d
   subst h108
   have s:=hsv109
   have d:=hwv110
   obtain ⟨_,rfl,⟨p111,n112,k113,rfl,h114⟩⟩:=h99
   obtain rfl:=h114.1
   have d:=(d.addE (e:=SlA p111 _ k113 x100) h114).addE h103
   refine sv s (o8 runUnderlying171 sizeOf71 rfl rfl h101.1 h101.2 h102) rfl fun a s=>?_
   refine sv s (F5 (j:=0) (d.ceAt 0 rfl) rfl isAgg71 rfl) rfl fun a s=>?_
   refine rz0 1 s rfl fun a s=>?_
   refine sn0 4 s rfl fun a s=>?_
   obtain ⟨size116,h115,u⟩:=bt u
   refine sv s (q8 rfl h115) rfl fun a s=>?_
   refine nl (sz0 2 s rfl fun a s=>?_)
   refine cd s u rfl (fun u=>?_) fun u=>?_
   ·cases u
   refine wp_skip (l9 (tn (wp_region_lit (rz0 2 s rfl fun a s=>?_))))
   exact ⟨_,io u,Sv49,wj s d [] [2]⟩
  refine wp_exit (j4 (j4 (o9 ?_)))
  obtain rfl:=oi u
  have h119:=hd71 _ rfl
  subst h119
  exact tn ⟨Sv49,wj s d [] [0]⟩
 rintro a w ⟨Sv75,s,d⟩
 refine tn (sn0 1 s rfl fun a s=>?_)
 obtain ⟨rv121,h120,u⟩:=bt u
 refine cR s (a2z h120 d.dom) (d9 call135 rfl) rfl ?_
 rintro v129 Sv126 w a h127 ⟨p122,k123,c125,rfl,h130,h124⟩ s
 have d:=(d.callN h127 h130).addE (e:=j6 c125 rv121) h124
 refine rz0 1 s rfl fun a s=>?_
 refine wp_seq (sz0 3 s rfl fun a s=>?_)
 obtain ⟨e213,h265,u⟩:=bt u
 refine x9 (fun a w=>∃ c214 p215 k216 Sv217,Sl 36 [(6,sl p215 k216 e213)] a∧Wd ⟨w0,S0,[]⟩ Sv217 [.row p215 e213.length k216 c214 41 8] [j6 c214 e213] w) ?_ ?_
 ·refine wp_block (u7 (fun sv132 a w=>∃ c183 p184 k185 Sv186,Sl 36 [(6,sl p184 k185 sv132.1),(25,sl p2 k3 slices1),(26,iv (slices1.length:Int)),(27,iv sv132.2)] a∧Wd ⟨w0,S0,[]⟩ Sv186 [.row p184 sv132.1.length k185 c183 41 8] [Sq p2 k3 slices1,j6 c183 sv132.1] w) (rv121,0) h265 ⟨c125,p122,k123,Sv126,wj s d [0] [1,0]⟩ ?_)
  clear h265
  repeat clear u
  rintro sv132 a w tv211 ⟨c183,p184,k185,Sv186,s,d⟩ u hd210
  refine sz0 1 s rfl fun a s=>?_
  refine wp_seq (cd s u rfl (fun u=>?_) fun u=>?_)
  ·refine sk (wp_seq (wp_block (sr ?_)))
   obtain ⟨x244,h242,u⟩:=bt u
   obtain ⟨b250,o251,q248,c249,h252,h245,h246,h247,h243⟩:=d.elemV 0 rfl h242
   have hsv253:=s
   have hwv254:=d
   subst h252
   have s:=hsv253
   have d:=hwv254
   obtain ⟨_,rfl,⟨p255,n256,k257,rfl,h258⟩⟩:=h243
   obtain rfl:=h258.1
   have d:=(d.addE (e:=SlA p255 _ k257 x244) h258).addE h247
   refine sv s (o8 runUnderlying171 sizeOf71 rfl rfl h245.1 h245.2 h246) rfl fun a s=>?_
   refine sv s (F5 (j:=0) (d.ceAt 0 rfl) rfl isAgg71 rfl) rfl fun a s=>?_
   refine rz0 1 s rfl fun a s=>?_
   refine wp_region_lit (rn0 2 s rfl fun a s=>?_)
   obtain ⟨l260,h259,u⟩:=bt u
   refine P9 (α:=Epoch) s d a5I 0 rfl rfl rfl 3 rfl 1 rfl h259 rfl trivial ?_
   intro p261 k262 c263 a w s d
   refine av s rfl rfl fun a s=>?_
   refine wpList_nil ?_
   refine l9 (tn (wp_region_lit (rz0 2 s rfl fun a s=>?_)))
   exact ⟨_,io u,c263,p261,k262,Sv186,wj s d [0] [3,0]⟩
  refine wp_exit (j4 (j4 (o9 ?_)))
  obtain rfl:=oi u
  have h264:=hd210 _ rfl
  subst h264
  exact tn ⟨c183,p184,k185,Sv186,wj s d [0] [1]⟩
 rintro a w ⟨c214,p215,k216,Sv217,s,d⟩
 refine tn (sz0 2 s rfl fun a s=>?_)
 obtain rfl:=oi u
 exact q1 s rfl (d.ret ⟨p215,k216,c214,rfl,(d.outs [0] (by decide) rfl),(d.envAt 0 rfl)⟩)
theorem a8Y {w0 S0 p2 k3 p6 k7 a1 b5 r} (u:a3N a1 b5=some r) (hS:Dm S0 w0) (h4:(Sq p2 k3 a1.Response.Stages).p S0 w0) (h8:(Sq p6 k7 b5.Response.Stages).p S0 w0):Ck Tryz.prog 108 #[V41 a1 p2 k3,V41 b5 p6 k7] w0 S0 [] l7 r:=by
 refine en 24 func108 rfl hS rfl rfl rfl fun a s d=>?_
 have d:=(d.addE h4).addE h8
 refine sr (wb (C41 a1 p2 k3) s d rfl fun b9 a w s d=>?_)
 refine wb (C41 b5 p6 k7) s d rfl fun b10 a w s d=>?_
 refine rz0 1 s rfl fun a s=>?_
 refine sn 4 [1,0] s d rfl rfl fun a s=>?_
 refine sv s (a1Q (by kernel_rfl) rfl rfl (P6 runUnderlying34 (by kernel_rfl) (EqF.cons1 rfl isAgg3 rfl rfl (F4 runUnderlying3) (EqF.cons1 rfl isAgg3 rfl rfl (F4 runUnderlying3) EqF.nil)))) rfl fun a s=>?_
 refine mv s rfl rfl fun a s=>?_
 refine o7 6 (fun a w1=>w=w1∧Sl 24 [(2,pt b9),(3,pt b10),(16,.bool (((a1.Rate.Num == b5.Rate.Num) && ((a1.Rate.Den == b5.Rate.Den) && true)) && ((a1.Position.X == b5.Position.X) && ((a1.Position.Y == b5.Position.Y) && ((a1.Position.Z == b5.Position.Z) && true)))))] a) ?_ ?_
 ·rcases Bool.eq_false_or_eq_true ((a1.Rate.Num == b5.Rate.Num) && ((a1.Rate.Den == b5.Rate.Den) && true)) with h11 | h11
  ·have s:=s.bT 10 rfl h11
   refine rn 4 [1,0] s d rfl rfl fun a s=>?_
   refine y8 s (a1Q (by kernel_rfl) rfl rfl (P6 runUnderlying36 (by kernel_rfl) (EqF.cons1 rfl isAgg3 rfl rfl (F4 runUnderlying3) (EqF.cons1 rfl isAgg3 rfl rfl (F4 runUnderlying3) (EqF.cons1 rfl isAgg3 rfl rfl (F4 runUnderlying3) EqF.nil))))) ⟨_,rfl,rfl⟩ rfl rfl fun a s=>?_
   refine rz0 1 s rfl fun a s=>?_
   exact ⟨rfl,(s.fix 16 (.bool (((a1.Rate.Num == b5.Rate.Num) && ((a1.Rate.Den == b5.Rate.Den) && true)) && ((a1.Position.X == b5.Position.X) && ((a1.Position.Y == b5.Position.Y) && ((a1.Position.Z == b5.Position.Z) && true))))) rfl (a3i h11)).weaken _ ⟨rfl,rfl,rfl,trivial⟩⟩
  have s:=s.bF 10 rfl h11
  refine rz0 6 s rfl fun a s=>?_
  exact ⟨rfl,(s.fix 16 (.bool (((a1.Rate.Num == b5.Rate.Num) && ((a1.Rate.Den == b5.Rate.Den) && true)) && ((a1.Position.X == b5.Position.X) && ((a1.Position.Y == b5.Position.Y) && ((a1.Position.Z == b5.Position.Z) && true))))) rfl (a3h h11)).weaken _ ⟨rfl,rfl,rfl,trivial⟩⟩
 rintro a w1 ⟨h31,s⟩
 subst h31
 refine mv s rfl rfl fun a s=>?_
 obtain ⟨c21,hc21,u⟩:=bt u
 refine o7 6 (fun a w=>∃ Sv22,Sl 24 [(23,.bool c21)] a∧Wd ⟨w0,S0,[]⟩ Sv22 [] [] w) ?_ ?_
 ·rcases Bool.eq_false_or_eq_true (((a1.Rate.Num == b5.Rate.Num) && ((a1.Rate.Den == b5.Rate.Den) && true)) && ((a1.Position.X == b5.Position.X) && ((a1.Position.Y == b5.Position.Y) && ((a1.Position.Z == b5.Position.Z) && true)))) with h20 | h20
  ·have s:=s.bT 17 rfl h20
   have u:=D5 hc21 h20
   refine rn 4 [1,0] s d rfl rfl fun a s=>?_
   obtain ⟨rv24,h23,u⟩:=bt u
   refine q9 s (a5P h23 d.bdom (d.bE 1 rfl) (d.bE 0 rfl)) (d9 call136 rfl) ⟨_,rfl,rfl⟩ rfl rfl ?_
   rintro v28 Sv25 w a h26 rfl s
   have d:=d.callB h26
   refine sv s (G8 rfl rfl) rfl fun a s=>?_
   refine wpList_nil ?_
   obtain rfl:=oi u
   exact tn ⟨S0,wj s d [] []⟩
  have s:=s.bF 17 rfl h20
  have u:=D6 hc21 h20
  refine rn0 6 s rfl fun a s=>?_
  refine wpList_nil ?_
  obtain rfl:=oi u
  exact tn ⟨S0,wj s d [] []⟩
 rintro a w ⟨Sv22,s,d⟩
 refine rz0 1 s rfl fun a s=>?_
 obtain rfl:=oi u
 exact q1 s rfl (d.ret rfl)
abbrev C7 (w0:World) (X:List Nat) (r:(List Span)):Rd:=fun S w v=>∃ p0_0 k0_0 c0_0,v=sl p0_0 k0_0 r∧Outs X w0 S w [.row p0_0 r.length k0_0 c0_0 52 2]∧(j6 c0_0 r).p S w
theorem a3f {w0 S0 p2 k3 s1 r} (u:K9 s1=some r) (hS:Dm S0 w0) (h4:(Sq p2 k3 s1).p S0 w0):Ck Tryz.prog 172 #[sl p2 k3 s1] w0 S0 [] C7 r:=by
 refine en 8 func172 rfl hS rfl rfl rfl fun a s d=>?_
 have d:=d.addE h4
 delta K9 at u
 refine sz0 1 s rfl fun a s=>?_
 refine wp_seq (sn0 1 s rfl fun a s=>?_)
 refine sv s (a9F runUnderlying50 rfl rfl) rfl fun a s=>?_
 refine nl ?_
 have hsv15:=s
 have hwv16:=d
 rcases p2 with _ | av8
 ·have s:=hsv15
  have d:=hwv16
  obtain rfl:=b1F (d.envAt 0 rfl)
  have u:some ([]:List Span)=some r:=by simpa [R5,maxLen] using u
  refine wp_cond_true (s.ev rfl) ?_
  refine sz0 1 s rfl fun a s=>?_
  obtain rfl:=oi u
  have d:=d.nilRow Span 52
  exact wp_ret (j3 (rt s rfl (d.ret ⟨none,0,[],rfl,(d.outs [0] (by decide) rfl),(d.envAt 0 rfl)⟩)))
 have s:=hsv15
 have d:=hwv16
 refine wp_cond_false (s.ev rfl) ?_
 refine sk (sr (a1x (α:=Span) (vs:=[]) (cs:=[]) (xs:=([]:List Span)) s d a4R rfl rfl rfl rfl rfl rfl rfl rfl trivial fun p9 a w s d=>?_))
 refine mv s rfl rfl fun a s=>?_
 obtain ⟨l11,h10,u⟩:=bt u
 refine P9 (α:=Span) s d a4R 0 rfl rfl rfl 0 rfl 1 rfl h10 rfl trivial ?_
 intro p12 k13 c14 a w s d
 refine rz0 1 s rfl fun a s=>?_
 obtain rfl:=oi u
 exact q1 s rfl (d.ret ⟨p12,k13,c14,rfl,(d.outs [0] (by decide) rfl),(d.envAt 0 rfl)⟩)
theorem a2j {w0 S0 p2 k3 g6 f7 cp8 s1} {f5:Span→Option Bool} {r} (u:M4 s1 f5=some r) (hS:Dm S0 w0) (h4:(Sq p2 k3 s1).p S0 w0) (h9:(a5X Tryz.prog g6 f7 cp8 f5).p S0 w0):Ck Tryz.prog 191 #[sl p2 k3 s1,.func (.func g6) f7.toArray cp8.toArray] w0 S0 [] J7 r:=by
 refine en 19 func191 rfl hS rfl rfl rfl fun a s d=>?_
 have d:=(d.addE h4).addE h9
 refine sz0 1 s rfl fun a s=>?_
 refine wp_seq (sz0 3 s rfl fun a s=>?_)
 refine wp_block (u7 (fun sv78 a w=>∃ Sv122,Sl 19 [(0,sl p2 k3 s1),(1,.func (.func g6) f7.toArray cp8.toArray),(7,iv (s1.length:Int)),(8,iv sv78)] a∧Wd ⟨w0,S0,[]⟩ Sv122 [] [Sq p2 k3 s1,a5X Tryz.prog g6 f7 cp8 f5] w) 0 u ⟨S0,wj s d [] [1,0]⟩ ?_)
 repeat clear u
 rintro sv78 a w tv145 ⟨Sv122,s,d⟩ u hd144
 refine sz0 1 s rfl fun a s=>?_
 refine wp_seq (cd s u rfl (fun u=>?_) fun u=>?_)
 ·refine sk (wp_seq (wp_block (sz0 2 s rfl fun a s=>?_)))
  refine sn0 3 s rfl fun a s=>?_
  obtain ⟨x172,h170,u⟩:=bt u
  obtain ⟨b178,o179,q176,c177,h180,h173,h174,h175,h171⟩:=d.elemV 0 rfl h170
  have hsv181:=s
  have hwv182:=d
  subst h180
  have s:=hsv181
  have d:=hwv182
  obtain ⟨_,_,rfl,rfl,rfl⟩:=h171
  have d:=d.addE h175
  refine sv s (o8 runUnderlying50 sizeOf52 rfl rfl h173.1 h173.2 h174) rfl fun a s=>?_
  refine sv s (D9 (j:=0) (d.ceAt 0 rfl) rfl isAgg52 sizeOf52 rfl rfl) rfl fun a s=>?_
  obtain ⟨rv184,h183,u⟩:=bt u
  refine q9 s ((d.bE 2 rfl).2 a2a.rfl' d.bdom ⟨_,_,rfl,rfl,rfl⟩ h183) (a4z (d.bE 2 rfl).1 rfl rfl) trivial rfl rfl ?_
  rintro v188 Sv185 w a h186 rfl s
  have d:=d.callB h186
  refine nl (cd s u rfl (fun u=>?_) fun u=>?_)
  ·refine sz0 2 s rfl fun a s=>?_
   obtain rfl:=oi u
   have h191:=hd144 _ rfl
   subst h191
   exact wp_ret (r9 (j3 (j3 (r9 (j3 (rt s rfl (d.ret rfl)))))))
  refine wp_skip (l9 (tn (wp_region_lit (rz0 2 s rfl fun a s=>?_))))
  exact ⟨_,io u,Sv122,wj s d [] [1,2]⟩
 obtain ⟨rv192,u,h193⟩:=Y7 u
 have h193:=(hd144 _ h193.symm).symm
 subst h193
 refine wp_exit (j4 (j4 (o9 (tn (sz0 1 s rfl fun a s=>?_)))))
 obtain rfl:=oi u
 exact q1 s rfl (d.ret rfl)
end Go.Proofs.YteanekphncdhiaaGreat.Wk

/- The walks of PickerExtends, part 3: each Go function computes what its plain program computes. Printed by a program of ours. -/
import Derived.Test.YtmlekplbmfengaaProg
import Derived.Test.YtmlekplbmfengaaDat
import Derived.Test.YtmlekplbmfengaaSh
import Derived.Test.YtmlekplbmfengaaLibL
import Derived.Test.YtmlekplbmfengaaLibZ
import Derived.Test.YtmlekplbmfengaaLibQ
import Derived.KernelRfl
import Derived.Test.YtmlekplbmfengaaLibU
import Derived.Shelf.SlLaysF0
import Derived.Test.YtmlekplbmfengaaWPickerExtends2
namespace Go.Proofs.Ytmlekplbmfengaa.Wk
open Go Go.RowKit Go.Proofs Go.Proofs.Ytmlekplbmfengaa.Sh
set_option linter.unusedVariables false
set_option linter.unusedSimpArgs false

abbrev made_Dice_Segment_rd (w0 : World) (X : List Nat) (b2 : Nat) (r : (Segment × Dice)) : (Nat → Prop) → World → Value → Prop := fun S w v => ∃ (p0_5 : Option Addr) (k0_5 : Nat) (c0_5 : List Value) (pq0_0 : Option Addr) (kq0_0 : Nat), v = .agg #[.int .i64 r.1.Start, .int .i64 r.1.First, .int .i64 r.1.Rate.Num, .int .i64 r.1.Rate.Den, .int .i64 r.1.Error, .slice p0_5 r.1.Samples.length k0_5] ∧ Outs X w0 S w [.row p0_5 r.1.Samples.length k0_5 c0_5 3 1, .box b2 [.slice pq0_0 r.2.L.length kq0_0, .int .i64 r.2.At] 69] ∧ (RowA c0_5 r.1.Samples).p S w ∧ (SlA pq0_0 r.2.L.length kq0_0 r.2.L).p S w
set_option maxHeartbeats 4000000 in
set_option maxRecDepth 100000 in
theorem made_Dice_Segment_ok {w0 : World} {S0 : Nat → Prop} {b2 : Nat} {p3 : Option Addr} {k4 : Nat} {d1 : Dice} {n6 : Int} {r : (Segment × Dice)} (hsh : made_Dice_Segment d1 n6 = some r) (hS : ∀ b, S0 b → b < w0.heap.size) (hin : Ins S0 w0 [.box b2 [.slice p3 d1.L.length k4, .int .i64 d1.At] 69]) (h5 : (SlA p3 d1.L.length k4 d1.L).p S0 w0) : Calls Try.prog 12 #[.pointer (some ⟨b2, 0, none⟩), .int .i64 n6] w0 (Ret (blks [.box b2 [.slice p3 d1.L.length k4, .int .i64 d1.At] 69]) w0 S0 (made_Dice_Segment_rd w0 (blks [.box b2 [.slice p3 d1.L.length k4, .int .i64 d1.At] 69]) b2 r)) := by
 refine calls_of_wp Try.func12 rfl ?_
 have hs := Sl.enter #[.pointer (some ⟨b2, 0, none⟩), .int .i64 n6] 22 [(0, .pointer (some ⟨b2, 0, none⟩)), (1, .int .i64 n6)] rfl ⟨rfl, rfl, trivial⟩
 have hw := Wd.enterI hS hin
 have hw := hw.addE h5
 delta made_Dice_Segment at hsh
 refine sr ?_
 refine w_alloc (cs := [.int .i64 0, .int .i64 0, .int .i64 0, .int .i64 0, .int .i64 0, .slice none ([] : List Int).length 0]) hs hw Try.zeroValue38 rfl rfl trivial ?_
 intro b7 a w hs hw
 refine nl ?_
 refine sr ?_
 refine mv hs rfl rfl fun a hs => ?_
 obtain ⟨rv9, h8, hsh⟩ := bind_t hsh
 refine st_callR hs (made_Dice_Next_ok h8 hw.dom (hw.ins [1] (by decide) rfl) (hw.envAt 0 rfl)) (do_call Try.call13 rfl) trivial rfl rfl ?_
 intro v16 Sv13 w a h14 h15 hs
 obtain ⟨p10, k11, rfl, h17, h12⟩ := h15
 have hw := hw.callO [1] [0] (by decide) rfl h14 h17
 have hw := hw.addE (e := SlA p10 rv9.2.L.length k11 rv9.2.L) h12
 refine sv hs (y_add rfl rfl) rfl fun a hs => ?_
 refine mv hs rfl rfl fun a hs => ?_
 refine w_litSlice (α := Int) (vs := [.int .i64 0, .int .i64 0, .int .i64 5]) (cs := [.int .i64 0, .int .i64 0, .int .i64 5]) (xs := ([0, 0, 5] : List Int)) hs hw El22 rfl rfl rfl rfl rfl rfl ⟨⟨_, rfl, rfl⟩, ⟨⟨_, rfl, rfl⟩, ⟨⟨_, rfl, rfl⟩, rfl⟩⟩⟩ rfl trivial rfl fun b19 a w hs hw => ?_
 obtain ⟨rv21, h20, hsh⟩ := bind_t hsh
 obtain ⟨Sv25, hw⟩ := w_share (α := Int) hw 0 rfl 0 rfl
 refine st_callR hs (made_Dice_Pick_ok h20 hw.dom (hw.ins [0] (by decide) rfl) (hw.envAt 2 rfl) (hw.envAt 0 rfl)) (do_call Try.call27 rfl) trivial rfl rfl ?_
 intro v29 Sv26 w a h27 h28 hs
 obtain ⟨p22, k23, rfl, h30, h24⟩ := h28
 have hw := hw.callO [0] [1] (by decide) rfl h27 h30
 have hw := hw.addE (e := SlA p22 rv21.2.L.length k23 rv21.2.L) h24
 refine mv hs rfl rfl fun a hs => ?_
 refine w_litSlice (α := Int) (vs := [.int .i64 1, .int .i64 4, .int .i64 20, .int .i64 3]) (cs := [.int .i64 1, .int .i64 4, .int .i64 20, .int .i64 3]) (xs := ([1, 4, 20, 3] : List Int)) hs hw El22 rfl rfl rfl rfl rfl rfl ⟨⟨_, rfl, rfl⟩, ⟨⟨_, rfl, rfl⟩, ⟨⟨_, rfl, rfl⟩, ⟨⟨_, rfl, rfl⟩, rfl⟩⟩⟩⟩ rfl trivial rfl fun b32 a w hs hw => ?_
 obtain ⟨rv34, h33, hsh⟩ := bind_t hsh
 obtain ⟨Sv38, hw⟩ := w_share (α := Int) hw 0 rfl 0 rfl
 refine st_callR hs (made_Dice_Pick_ok h33 hw.dom (hw.ins [0] (by decide) rfl) (hw.envAt 2 rfl) (hw.envAt 0 rfl)) (do_call Try.call27 rfl) trivial rfl rfl ?_
 intro v42 Sv39 w a h40 h41 hs
 obtain ⟨p35, k36, rfl, h43, h37⟩ := h41
 have hw := hw.callO [0] [1] (by decide) rfl h40 h43
 have hw := hw.addE (e := SlA p35 rv34.2.L.length k36 rv34.2.L) h37
 refine sv hs (y_build (vs := [(0, .int .i64 rv34.1), (1, .int .i64 1)]) Bld36 rfl rfl) rfl fun a hs => ?_
 refine mv hs rfl rfl fun a hs => ?_
 refine w_litSlice (α := Int) (vs := [.int .i64 0, .int .i64 10, .int .i64 2000000]) (cs := [.int .i64 0, .int .i64 10, .int .i64 2000000]) (xs := ([0, 10, 2000000] : List Int)) hs hw El22 rfl rfl rfl rfl rfl rfl ⟨⟨_, rfl, rfl⟩, ⟨⟨_, rfl, rfl⟩, ⟨⟨_, rfl, rfl⟩, rfl⟩⟩⟩ rfl trivial rfl fun b45 a w hs hw => ?_
 obtain ⟨rv47, h46, hsh⟩ := bind_t hsh
 obtain ⟨Sv51, hw⟩ := w_share (α := Int) hw 0 rfl 0 rfl
 refine st_callR hs (made_Dice_Pick_ok h46 hw.dom (hw.ins [0] (by decide) rfl) (hw.envAt 2 rfl) (hw.envAt 0 rfl)) (do_call Try.call27 rfl) trivial rfl rfl ?_
 intro v55 Sv52 w a h53 h54 hs
 obtain ⟨p48, k49, rfl, h56, h50⟩ := h54
 have hw := hw.callO [0] [1] (by decide) rfl h53 h56
 have hw := hw.addE (e := SlA p48 rv47.2.L.length k49 rv47.2.L) h50
 refine mv hs rfl rfl fun a hs => ?_
 refine mv hs rfl rfl fun a hs => ?_
 obtain ⟨rv58, h57, hsh⟩ := bind_t hsh
 refine st_callR hs (made_Dice_Wave_ok h57 hw.dom (hw.ins [0] (by decide) rfl) (hw.envAt 0 rfl)) (do_call Try.call16 rfl) trivial rfl rfl ?_
 intro v69 Sv66 w a h67 h68 hs
 obtain ⟨p59, k60, c62, p63, k64, rfl, h70, h61, h65⟩ := h68
 have hw := hw.callO [0] [1] (by decide) rfl h67 h70
 have hw := hw.addE (e := RowA c62 rv58.1) h61
 have hw := hw.addE (e := SlA p63 rv58.2.L.length k64 rv58.2.L) h65
 refine sv hs (y_build (vs := [(0, .int .i64 (w64 (1000000000000 + rv9.1))), (1, .int .i64 rv21.1), (2, .agg #[.int .i64 rv34.1, .int .i64 1]), (3, .int .i64 rv47.1), (4, .slice p59 rv58.1.length k60)]) Bld38 rfl rfl) rfl fun a hs => ?_
 refine w_store (m := 6) (cs' := [.int .i64 (w64 (1000000000000 + rv9.1)), .int .i64 rv21.1, .int .i64 rv34.1, .int .i64 1, .int .i64 rv47.1, .slice p59 rv58.1.length k60]) hs hw 2 rfl rfl rfl Try.sizeOf38 rfl rfl rfl rfl trivial ?_
 intro a w hs hw
 refine nl ?_
 have hsh := oi hsh
 subst hsh
 refine wp_ret ?_
 exact ret1 hs rfl (rv_cell hw 2 rfl rfl Try.isAgg38 Try.sizeOf38 rfl) (hw.ret ⟨p59, k60, c62, p63, k64, rfl, (hw.outs [0, 1] (by decide) rfl), (hw.envAt 1 rfl), (hw.envAt 0 rfl)⟩)

abbrev slices_Clone_Lapi_Pick_api_Pick_rd (w0 : World) (X : List Nat) (r : (List Pick)) : (Nat → Prop) → World → Value → Prop := fun S w v => ∃ (p0_0 : Option Addr) (k0_0 : Nat) (c0_0 : List Value), v = .slice p0_0 r.length k0_0 ∧ Outs X w0 S w [.row p0_0 r.length k0_0 c0_0 46 9] ∧ (RowA c0_0 r).p S w
set_option maxHeartbeats 4000000 in
set_option maxRecDepth 100000 in
theorem slices_Clone_Lapi_Pick_api_Pick_ok {w0 : World} {S0 : Nat → Prop} {p2 : Option Addr} {k3 : Nat} {s1 : (List Pick)} {r : (List Pick)} (hsh : slices_Clone_Lapi_Pick_api_Pick s1 = some r) (hS : ∀ b, S0 b → b < w0.heap.size) (h4 : (SlA p2 s1.length k3 s1).p S0 w0) : Calls Try.prog 41 #[.slice p2 s1.length k3] w0 (Ret ([]) w0 S0 (slices_Clone_Lapi_Pick_api_Pick_rd w0 ([]) r)) := by
 refine calls_of_wp Try.func41 rfl ?_
 have hs := Sl.enter #[.slice p2 s1.length k3] 8 [(0, .slice p2 s1.length k3)] rfl ⟨rfl, trivial⟩
 have hw := Wd.enter (E := []) hS (fun _ h => (by cases h))
 have hw := hw.addE h4
 delta slices_Clone_Lapi_Pick_api_Pick at hsh
 refine sr ?_
 refine av hs rfl rfl fun a hs => ?_
 refine nl ?_
 refine wp_seq ?_
 refine sr ?_
 refine mv hs rfl rfl fun a hs => ?_
 refine sv hs (y_eqlN Try.runUnderlying41 rfl rfl) rfl fun a hs => ?_
 refine nl ?_
 have hsv15 := hs
 have hwv16 := hw
 rcases p2 with _ | av8
 ·have hs := hsv15
  have hw := hwv16
  obtain rfl := slnil (hw.envAt 0 rfl)
  have hsh : some ([] : List Pick) = some r := by simpa [appM, maxLen] using hsh
  refine wp_cond_true (hs.ev rfl) ?_
  refine sr ?_
  refine av hs rfl rfl fun a hs => ?_
  refine nl ?_
  have hsh := oi hsh
  subst hsh
  have hw := hw.nilRow Pick 46
  refine wp_ret ?_
  refine then_ret ?_
  exact ret1 hs rfl (rv_tmp rfl) (hw.ret ⟨none, 0, [], rfl, (hw.outs [0] (by decide) rfl), (hw.envAt 0 rfl)⟩)
 have hs := hsv15
 have hw := hwv16
 refine wp_cond_false (hs.ev rfl) ?_
 refine wp_skip ?_
 refine then_normal ?_
 refine sr ?_
 refine w_buildSlice (α := Pick) (vs := []) (cs := []) (xs := ([] : List Pick)) hs hw El41 rfl rfl rfl rfl rfl rfl rfl rfl trivial fun p9 a w hs hw => ?_
 refine mv hs rfl rfl fun a hs => ?_
 obtain ⟨l11, h10, hsh⟩ := bind_t hsh
 refine w_appendE (α := Pick) hs hw El41 0 rfl rfl rfl 0 rfl 1 rfl h10 rfl trivial ?_
 intro p12 k13 c14 a w hs hw
 refine av hs rfl rfl fun a hs => ?_
 refine nl ?_
 have hsh := oi hsh
 subst hsh
 refine wp_ret ?_
 exact ret1 hs rfl (rv_tmp rfl) (hw.ret ⟨p12, k13, c14, rfl, (hw.outs [0] (by decide) rfl), (hw.envAt 0 rfl)⟩)

end Go.Proofs.Ytmlekplbmfengaa.Wk
namespace Go.Proofs
open Go Go.Shelf Go.RowKit Go.Lib Go.Sort
def Try.sort42_ren : Go.Shelf.Ren := ⟨fun | 6 => 42 | 15 => 67 | 14 => 66 | 28 => 89 | 29 => 90 | 20 => 81 | 21 => 82 | 22 => 83 | 23 => 84 | 24 => 85 | 25 => 86 | 26 => 87 | 27 => 88 | 46 => 97 | 47 => 98 | 48 => 99 | 49 => 100 | 50 => 101 | 57 => 102 | n => n, fun | 22 => 41 | 24 => 46 | 25 => 67 | 3 => 3 | 39 => 106 | 0 => 0 | 53 => 125 | 55 => 127 | 4 => 4 | 46 => 118 | 45 => 117 | 50 => 122 | 5 => 5 | 9 => 9 | 66 => 131 | 70 => 135 | 76 => 137 | 77 => 83 | n => n, fun | n => n⟩
theorem Try.sort42 : Go.Proofs.SlLaysF0.n6 Try.prog Try.sort42_ren where
  mixed := by kernel_rfl
  f6 := ⟨Try.f42.name, by decide, Try.func42.trans (congrArg some (by kernel_rfl))⟩
  f14 := ⟨Try.f66.name, by decide, Try.func66.trans (congrArg some (by kernel_rfl))⟩
  f15 := Try.func67.trans (congrArg some (by kernel_rfl))
  f20 := ⟨Try.f81.name, by decide, Try.func81.trans (congrArg some (by kernel_rfl))⟩
  f21 := ⟨Try.f82.name, by decide, Try.func82.trans (congrArg some (by kernel_rfl))⟩
  f22 := ⟨Try.f83.name, by decide, Try.func83.trans (congrArg some (by kernel_rfl))⟩
  f23 := ⟨Try.f84.name, by decide, Try.func84.trans (congrArg some (by kernel_rfl))⟩
  f24 := ⟨Try.f85.name, by decide, Try.func85.trans (congrArg some (by kernel_rfl))⟩
  f25 := ⟨Try.f86.name, by decide, Try.func86.trans (congrArg some (by kernel_rfl))⟩
  f26 := ⟨Try.f87.name, by decide, Try.func87.trans (congrArg some (by kernel_rfl))⟩
  f27 := ⟨Try.f88.name, by decide, Try.func88.trans (congrArg some (by kernel_rfl))⟩
  f28 := Try.func89.trans (congrArg some (by kernel_rfl))
  f29 := Try.func90.trans (congrArg some (by kernel_rfl))
  f46 := ⟨Try.f97.name, by decide, Try.func97.trans (congrArg some (by kernel_rfl))⟩
  f47 := Try.func98.trans (congrArg some (by kernel_rfl))
  f48 := Try.func99.trans (congrArg some (by kernel_rfl))
  f49 := ⟨Try.f100.name, by decide, Try.func100.trans (congrArg some (by kernel_rfl))⟩
  f50 := ⟨Try.f101.name, by decide, Try.func101.trans (congrArg some (by kernel_rfl))⟩
  f57 := ⟨Try.f102.name, by decide, Try.func102.trans (congrArg some (by kernel_rfl))⟩
  t0 := Try.underlying0
  a0 := Try.isAgg0
  z0 := Try.sizeOf0
  v0 := Try.zeroValue0
  t3 := Try.underlying3
  a3 := Try.isAgg3
  z3 := Try.sizeOf3
  v3 := Try.zeroValue3
  t4 := Try.underlying4
  a4 := Try.isAgg4
  z4 := Try.sizeOf4
  v4 := Try.zeroValue4
  t5 := Try.underlying5
  a5 := Try.isAgg5
  z5 := Try.sizeOf5
  v5 := Try.zeroValue5
  t9 := Try.underlying9
  a9 := Try.isAgg9
  z9 := Try.sizeOf9
  v9 := Try.zeroValue9
  t22 := Try.underlying41
  a22 := Try.isAgg41
  z22 := Try.sizeOf41
  v22 := Try.zeroValue41
  t25 := Try.underlying67
  a25 := Try.isAgg67
  z25 := Try.sizeOf67
  v25 := Try.zeroValue67
  t39 := Try.underlying106
  a39 := Try.isAgg106
  z39 := Try.sizeOf106
  v39 := Try.zeroValue106
  t45 := Try.underlying117
  a45 := Try.isAgg117
  z45 := Try.sizeOf117
  v45 := Try.zeroValue117
  t46 := Try.underlying118
  a46 := Try.isAgg118
  z46 := Try.sizeOf118
  v46 := Try.zeroValue118
  t50 := Try.underlying122
  a50 := Try.isAgg122
  z50 := Try.sizeOf122
  v50 := Try.zeroValue122
  t53 := Try.underlying125
  a53 := Try.isAgg125
  z53 := Try.sizeOf125
  v53 := Try.zeroValue125
  t55 := Try.underlying127
  a55 := Try.isAgg127
  z55 := Try.sizeOf127
  v55 := Try.zeroValue127
  t66 := Try.underlying131
  a66 := Try.isAgg131
  z66 := Try.sizeOf131
  v66 := Try.zeroValue131
  t70 := Try.underlying135
  a70 := Try.isAgg135
  z70 := Try.sizeOf135
  v70 := Try.zeroValue135
  t76 := Try.underlying137
  a76 := Try.isAgg137
  z76 := Try.sizeOf137
  v76 := Try.zeroValue137
  t77 := Try.underlying83
  a77 := Try.isAgg83
  z77 := Try.sizeOf83
  v77 := Try.zeroValue83
end Go.Proofs
namespace Go.Proofs.Ytmlekplbmfengaa.Wk
open Go Go.RowKit Go.Proofs Go.Proofs.Ytmlekplbmfengaa.Sh
set_option linter.unusedVariables false
set_option linter.unusedSimpArgs false
abbrev slices_SortFunc_Lapi_Pick_api_Pick_rd (w0 : World) (X : List Nat) (p2 : Option Addr) (k3 : Nat) (x1 : (List Pick)) (r : (List Pick)) : (Nat → Prop) → World → Value → Prop := fun S w v => ∃ (ck_0 : List Value), v = .tuple #[] ∧ Outs X w0 S w [.row p2 r.length k3 ck_0 46 9] ∧ (RowA ck_0 r).p S w ∧ (LenA x1.length r).p S w
set_option maxHeartbeats 4000000 in
set_option maxRecDepth 100000 in
theorem slices_SortFunc_Lapi_Pick_api_Pick_ok {w0 : World} {S0 : Nat → Prop} {p2 : Option Addr} {k3 : Nat} {c4 : List Value} {g7 : Nat} {cp9 : List Value} {x1 : (List Pick)} {cmp6 : Pick → Pick → Option Int} {r : (List Pick)} (hsh : slices_SortFunc_Lapi_Pick_api_Pick x1 cmp6 = some r) (hS : ∀ b, S0 b → b < w0.heap.size) (hin : Ins S0 w0 [.row p2 x1.length k3 c4 46 9]) (h5 : (RowA c4 x1).p S0 w0) (h10 : (FnA2 Try.prog g7 [] cp9 cmp6).p S0 w0) : Calls Try.prog 42 #[.slice p2 x1.length k3, .func (.func g7) #[] cp9.toArray] w0 (Ret (blks [.row p2 x1.length k3 c4 46 9]) w0 S0 (slices_SortFunc_Lapi_Pick_api_Pick_rd w0 (blks [.row p2 x1.length k3 c4 46 9]) p2 k3 x1 r)) := by
 exact sort_leaf (α := Pick) (T := 46) Try.sort42 Try.isAgg46 Try.sizeOf46 (fun _ => rfl) (by decide) (fun d => [.string d.Source.Network, .string d.Source.Station, .string d.Source.Location, .string d.Source.Channel, .int .i64 d.Time, .int .i64 d.Early, .int .i64 d.Late, .int .i64 d.Amplitude, .int .i64 d.Polarity]) (by rintro S w cs d ⟨_, _, _, _, _, _, _, _, _, rfl, rfl, rfl, rfl, rfl, rfl, rfl, rfl, rfl, rfl⟩; rfl) hsh hS hin h5 h10

abbrev cmp_isNaN_string_rd (w0 : World) (X : List Nat) (r : Bool) : (Nat → Prop) → World → Value → Prop := fun S w v => v = .bool r
set_option maxHeartbeats 4000000 in
set_option maxRecDepth 100000 in
theorem cmp_isNaN_string_ok {w0 : World} {S0 : Nat → Prop} {x1 : ByteArray} {r : Bool} (hsh : cmp_isNaN_string x1 = some r) (hS : ∀ b, S0 b → b < w0.heap.size) : Calls Try.prog 92 #[.string x1] w0 (Ret ([]) w0 S0 (cmp_isNaN_string_rd w0 ([]) r)) := by
 refine calls_of_wp Try.func92 rfl ?_
 have hs := Sl.enter #[.string x1] 6 [(0, .string x1)] rfl ⟨rfl, trivial⟩
 have hw := Wd.enter (E := []) hS (fun _ h => (by cases h))
 delta cmp_isNaN_string at hsh
 refine sr ?_
 refine av hs rfl rfl fun a hs => ?_
 refine nl ?_
 refine sr ?_
 refine mv hs rfl rfl fun a hs => ?_
 refine mv hs rfl rfl fun a hs => ?_
 refine sv hs (y_neqS rfl rfl) rfl fun a hs => ?_
 refine av hs rfl rfl fun a hs => ?_
 refine nl ?_
 have hsh := oi hsh
 subst hsh
 refine wp_ret ?_
 exact ret1 hs rfl (rv_tmp rfl) (hw.ret rfl)

abbrev cmp_Compare_string_rd (w0 : World) (X : List Nat) (r : Int) : (Nat → Prop) → World → Value → Prop := fun S w v => v = .int .i64 r
set_option maxHeartbeats 4000000 in
set_option maxRecDepth 100000 in
theorem cmp_Compare_string_ok {w0 : World} {S0 : Nat → Prop} {x1 : ByteArray} {y2 : ByteArray} {r : Int} (hsh : cmp_Compare_string x1 y2 = some r) (hS : ∀ b, S0 b → b < w0.heap.size) : Calls Try.prog 70 #[.string x1, .string y2] w0 (Ret ([]) w0 S0 (cmp_Compare_string_rd w0 ([]) r)) := by
 refine calls_of_wp Try.func70 rfl ?_
 have hs := Sl.enter #[.string x1, .string y2] 20 [(0, .string x1), (1, .string y2)] rfl ⟨rfl, rfl, trivial⟩
 have hw := Wd.enter (E := []) hS (fun _ h => (by cases h))
 delta cmp_Compare_string at hsh
 refine sr ?_
 refine av hs rfl rfl fun a hs => ?_
 refine nl ?_
 refine sr ?_
 refine mv hs rfl rfl fun a hs => ?_
 obtain ⟨rv4, h3, hsh⟩ := bind_t hsh
 refine st_callR hs (cmp_isNaN_string_ok h3 hw.bdom) (do_call Try.call92 rfl) trivial rfl rfl ?_
 intro v8 Sv5 w a h6 h7 hs
 subst h7
 have hw := hw.callB h6
 refine av hs rfl rfl fun a hs => ?_
 refine nl ?_
 refine sr ?_
 refine mv hs rfl rfl fun a hs => ?_
 obtain ⟨rv11, h10, hsh⟩ := bind_t hsh
 refine st_callR hs (cmp_isNaN_string_ok h10 hw.bdom) (do_call Try.call92 rfl) trivial rfl rfl ?_
 intro v15 Sv12 w a h13 h14 hs
 subst h14
 have hw := hw.callB h13
 refine av hs rfl rfl fun a hs => ?_
 refine nl ?_
 refine wp_seq ?_
 refine sr ?_
 refine mv hs rfl rfl fun a hs => ?_
 refine nl ?_
 refine wp_cond_split (hs.ev rfl) (fun h19 => ?_) (fun h19 => ?_)
 ·have hsh := ite_t hsh h19
  refine wp_seq ?_
  refine sr ?_
  refine mv hs rfl rfl fun a hs => ?_
  refine nl ?_
  refine wp_cond_split (hs.ev rfl) (fun h21 => ?_) (fun h21 => ?_)
  ·have hsh := ite_t hsh h21
   refine sr ?_
   refine av hs rfl rfl fun a hs => ?_
   refine nl ?_
   have hsh := oi hsh
   subst hsh
   refine wp_ret ?_
   refine then_ret ?_
   refine then_ret ?_
   exact ret1 hs rfl (rv_tmp rfl) (hw.ret rfl)
  have hsh := ite_f hsh h21
  refine wp_skip ?_
  refine then_normal ?_
  refine sr ?_
  refine av hs rfl rfl fun a hs => ?_
  refine nl ?_
  have hsh := oi hsh
  subst hsh
  refine wp_ret ?_
  refine then_ret ?_
  exact ret1 hs rfl (rv_tmp rfl) (hw.ret rfl)
 have hsh := ite_f hsh h19
 refine wp_skip ?_
 refine then_normal ?_
 refine wp_seq ?_
 refine sr ?_
 refine mv hs rfl rfl fun a hs => ?_
 refine nl ?_
 refine wp_cond_split (hs.ev rfl) (fun h23 => ?_) (fun h23 => ?_)
 ·have hsh := ite_t hsh h23
  refine sr ?_
  refine av hs rfl rfl fun a hs => ?_
  refine nl ?_
  have hsh := oi hsh
  subst hsh
  refine wp_ret ?_
  refine then_ret ?_
  exact ret1 hs rfl (rv_tmp rfl) (hw.ret rfl)
 have hsh := ite_f hsh h23
 refine wp_skip ?_
 refine then_normal ?_
 refine wp_seq ?_
 refine sr ?_
 refine mv hs rfl rfl fun a hs => ?_
 refine mv hs rfl rfl fun a hs => ?_
 refine sv hs (y_lssS rfl rfl) rfl fun a hs => ?_
 refine nl ?_
 refine wp_cond_split (hs.ev rfl) (fun h25 => ?_) (fun h25 => ?_)
 ·have hsh := ite_t hsh h25
  refine sr ?_
  refine av hs rfl rfl fun a hs => ?_
  refine nl ?_
  have hsh := oi hsh
  subst hsh
  refine wp_ret ?_
  refine then_ret ?_
  exact ret1 hs rfl (rv_tmp rfl) (hw.ret rfl)
 have hsh := ite_f hsh h25
 refine wp_skip ?_
 refine then_normal ?_
 refine wp_seq ?_
 refine sr ?_
 refine mv hs rfl rfl fun a hs => ?_
 refine mv hs rfl rfl fun a hs => ?_
 refine sv hs (y_gtrS rfl rfl) rfl fun a hs => ?_
 refine nl ?_
 refine wp_cond_split (hs.ev rfl) (fun h27 => ?_) (fun h27 => ?_)
 ·have hsh := ite_t hsh h27
  refine sr ?_
  refine av hs rfl rfl fun a hs => ?_
  refine nl ?_
  have hsh := oi hsh
  subst hsh
  refine wp_ret ?_
  refine then_ret ?_
  exact ret1 hs rfl (rv_tmp rfl) (hw.ret rfl)
 have hsh := ite_f hsh h27
 refine wp_skip ?_
 refine then_normal ?_
 refine sr ?_
 refine av hs rfl rfl fun a hs => ?_
 refine nl ?_
 have hsh := oi hsh
 subst hsh
 refine wp_ret ?_
 exact ret1 hs rfl (rv_tmp rfl) (hw.ret rfl)

abbrev cmp_Or_int_rd (w0 : World) (X : List Nat) (r : Int) : (Nat → Prop) → World → Value → Prop := fun S w v => v = .int .i64 r
set_option maxHeartbeats 4000000 in
set_option maxRecDepth 100000 in
theorem cmp_Or_int_ok {w0 : World} {S0 : Nat → Prop} {p2 : Option Addr} {k3 : Nat} {vals1 : (List Int)} {r : Int} (hsh : cmp_Or_int vals1 = some r) (hS : ∀ b, S0 b → b < w0.heap.size) (h4 : (SlA p2 vals1.length k3 vals1).p S0 w0) : Calls Try.prog 47 #[.slice p2 vals1.length k3] w0 (Ret ([]) w0 S0 (cmp_Or_int_rd w0 ([]) r)) := by
 refine calls_of_wp Try.func47 rfl ?_
 have hs := Sl.enter #[.slice p2 vals1.length k3] 18 [(0, .slice p2 vals1.length k3)] rfl ⟨rfl, trivial⟩
 have hw := Wd.enter (E := []) hS (fun _ h => (by cases h))
 have hw := hw.addE h4
 delta cmp_Or_int at hsh
 refine sr ?_
 refine av hs rfl rfl fun a hs => ?_
 refine nl ?_
 refine sr ?_
 refine av hs rfl rfl fun a hs => ?_
 refine nl ?_
 refine wp_seq ?_
 refine sr ?_
 refine mv hs rfl rfl fun a hs => ?_
 refine sv hs (y_len Try.runUnderlying22 rfl) rfl fun a hs => ?_
 refine mv hs rfl rfl fun a hs => ?_
 refine nl ?_
 refine wp_block ?_
 refine wp_while (fun sv55 a w => ∃ (Sv87 : Nat → Prop), Sl 18 [(3, .int .i64 0), (6, .slice p2 vals1.length k3), (7, .int .i64 (vals1.length : Int)), (8, .int .i64 sv55)] a ∧ Wd ⟨w0, S0, []⟩ Sv87 [] [SlA p2 vals1.length k3 vals1] w) 0 hsh ⟨S0, (hs.wk rfl), (hw.ft [] [0] (by decide) rfl rfl)⟩ ?_
 repeat clear hsh
 rintro sv55 a w tv104 ⟨Sv87, hs, hw⟩ hsh hd103
 delta cmp_Or_int_l2 at hsh
 refine sr ?_
 refine sv hs (y_lss rfl rfl) rfl fun a hs => ?_
 refine nl ?_
 refine wp_seq ?_
 refine wp_cond_split (hs.ev rfl) (fun h108 => ?_) (fun h108 => ?_)
 ·have hsh := ite_t hsh h108
  refine wp_skip ?_
  refine then_normal ?_
  refine wp_seq ?_
  refine wp_block ?_
  refine sr ?_
  obtain ⟨x125, h123, hsh⟩ := bind_t hsh
  obtain ⟨b131, o132, q129, c130, h133, h126, h127, h128, h124⟩ := hw.elemV 0 rfl h123
  have hsv134 := hs
  have hwv135 := hw
  subst h133
  have hs := hsv134
  have hw := hwv135
  obtain ⟨_, rfl, rfl⟩ := h124
  have hw := hw.addE h128
  refine sv hs (y_indexAt Try.runUnderlying22 Try.sizeOf3 rfl rfl h126.1 h126.2 h127) rfl fun a hs => ?_
  refine sv hs (y_loadE1 (j := 0) (hw.ceAt 0 rfl) rfl Try.isAgg3 rfl) rfl fun a hs => ?_
  refine av hs rfl rfl fun a hs => ?_
  refine nl ?_
  refine sr ?_
  refine mv hs rfl rfl fun a hs => ?_
  refine mv hs rfl rfl fun a hs => ?_
  refine sv hs (y_neq rfl rfl) rfl fun a hs => ?_
  refine nl ?_
  refine wp_cond_split (hs.ev rfl) (fun h137 => ?_) (fun h137 => ?_)
  ·have hsh := ite_t hsh h137
   refine sr ?_
   refine mv hs rfl rfl fun a hs => ?_
   refine av hs rfl rfl fun a hs => ?_
   refine nl ?_
   have hsh := oi hsh
   subst hsh
   have h138 := hd103 _ rfl
   subst h138
   refine wp_ret ?_
   refine blk_ret ?_
   refine then_ret ?_
   refine then_ret ?_
   refine blk_ret ?_
   refine then_ret ?_
   exact ret1 hs rfl (rv_tmp rfl) (hw.ret rfl)
  have hsh := ite_f hsh h137
  refine wp_skip ?_
  refine blk_normal ?_
  refine then_normal ?_
  refine wp_region_lit ?_
  refine sv hs (y_add rfl rfl) rfl fun a hs => ?_
  refine mv hs rfl rfl fun a hs => ?_
  refine nl ?_
  exact ⟨_, (Option.some.inj hsh).symm, Sv87, (hs.wk rfl), (hw.ft [] [1] (by decide) rfl rfl)⟩
 have hsh := ite_f hsh h108
 obtain ⟨rv139, hsh, h140⟩ := map_t hsh
 have h140 := (hd103 _ h140.symm).symm
 subst h140
 refine wp_exit ?_
 refine then_exit ?_
 refine then_exit ?_
 refine blk_exit ?_
 refine then_normal ?_
 refine sr ?_
 refine mv hs rfl rfl fun a hs => ?_
 refine av hs rfl rfl fun a hs => ?_
 refine nl ?_
 have hsh := oi hsh
 subst hsh
 refine wp_ret ?_
 exact ret1 hs rfl (rv_tmp rfl) (hw.ret rfl)

abbrev source_Compare_rd (w0 : World) (X : List Nat) (r : Int) : (Nat → Prop) → World → Value → Prop := fun S w v => v = .int .i64 r
set_option maxHeartbeats 4000000 in
set_option maxRecDepth 100000 in
theorem source_Compare_ok {w0 : World} {S0 : Nat → Prop} {a1 : SourceID} {b2 : SourceID} {r : Int} (hsh : source_Compare a1 b2 = some r) (hS : ∀ b, S0 b → b < w0.heap.size) : Calls Try.prog 48 #[.agg #[.string a1.Network, .string a1.Station, .string a1.Location, .string a1.Channel], .agg #[.string b2.Network, .string b2.Station, .string b2.Location, .string b2.Channel]] w0 (Ret ([]) w0 S0 (source_Compare_rd w0 ([]) r)) := by
 refine calls_of_wp Try.func48 rfl ?_
 have hs := Sl.enter #[.agg #[.string a1.Network, .string a1.Station, .string a1.Location, .string a1.Channel], .agg #[.string b2.Network, .string b2.Station, .string b2.Location, .string b2.Channel]] 27 [(0, .agg #[.string a1.Network, .string a1.Station, .string a1.Location, .string a1.Channel]), (1, .agg #[.string b2.Network, .string b2.Station, .string b2.Location, .string b2.Channel])] rfl ⟨rfl, rfl, trivial⟩
 have hw := Wd.enter (E := []) hS (fun _ h => (by cases h))
 delta source_Compare at hsh
 refine sr ?_
 refine w_box (cs := [.string a1.Network, .string a1.Station, .string a1.Location, .string a1.Channel]) hs hw rfl rfl rfl trivial ?_
 intro b3 a w hs hw
 refine w_box (cs := [.string b2.Network, .string b2.Station, .string b2.Location, .string b2.Channel]) hs hw rfl rfl rfl trivial ?_
 intro b4 a w hs hw
 refine av hs rfl rfl fun a hs => ?_
 refine nl ?_
 refine wp_seq ?_
 obtain ⟨rv6, h5, hsh⟩ := bind_t hsh
 obtain ⟨rv8, h7, hsh⟩ := bind_t hsh
 obtain ⟨rv10, h9, hsh⟩ := bind_t hsh
 obtain ⟨rv12, h11, hsh⟩ := bind_t hsh
 obtain ⟨rv16, h15, hsh⟩ := bind_t hsh
 refine wp_only (fun a w => ∃ (Sv17 : Nat → Prop), Sl 27 [(4, .int .i64 rv16)] a ∧ Wd ⟨w0, S0, []⟩ Sv17 [] [] w) ?_ ?_
 ·refine h_b (C := Cls [.box b4 [.string b2.Network, .string b2.Station, .string b2.Location, .string b2.Channel] 33, .box b3 [.string a1.Network, .string a1.Station, .string a1.Location, .string a1.Channel] 33] []) (by kernel_rfl) rfl (hw.drew.cs [0, 1] [] rfl rfl) fun hC => ?_
  have hw := hw.drew
  refine gv hs 0 rfl rfl hC (fun w hC => y_fieldAddr (o' := 0) Try.runUnderlying33 rfl Try.sizeOf9 rfl rfl rfl) fun a hs => ?_
  refine gv hs 1 rfl rfl hC (fun w hC => y_loadB1 (hC.ownAt 1 rfl) rfl Try.isAgg9 rfl) fun a hs => ?_
  refine gv hs 2 rfl rfl hC (fun w hC => y_fieldAddr (o' := 0) Try.runUnderlying33 rfl Try.sizeOf9 rfl rfl rfl) fun a hs => ?_
  refine gv hs 3 rfl rfl hC (fun w hC => y_loadB1 (hC.ownAt 0 rfl) rfl Try.isAgg9 rfl) fun a hs => ?_
  refine gv hs 5 rfl rfl hC (fun w hC => y_fieldAddr (o' := 1) Try.runUnderlying33 rfl Try.sizeOf9 rfl rfl rfl) fun a hs => ?_
  refine gv hs 6 rfl rfl hC (fun w hC => y_loadB1 (hC.ownAt 1 rfl) rfl Try.isAgg9 rfl) fun a hs => ?_
  refine gv hs 7 rfl rfl hC (fun w hC => y_fieldAddr (o' := 1) Try.runUnderlying33 rfl Try.sizeOf9 rfl rfl rfl) fun a hs => ?_
  refine gv hs 8 rfl rfl hC (fun w hC => y_loadB1 (hC.ownAt 0 rfl) rfl Try.isAgg9 rfl) fun a hs => ?_
  refine gv hs 10 rfl rfl hC (fun w hC => y_fieldAddr (o' := 2) Try.runUnderlying33 rfl Try.sizeOf9 rfl rfl rfl) fun a hs => ?_
  refine gv hs 11 rfl rfl hC (fun w hC => y_loadB1 (hC.ownAt 1 rfl) rfl Try.isAgg9 rfl) fun a hs => ?_
  refine gv hs 12 rfl rfl hC (fun w hC => y_fieldAddr (o' := 2) Try.runUnderlying33 rfl Try.sizeOf9 rfl rfl rfl) fun a hs => ?_
  refine gv hs 13 rfl rfl hC (fun w hC => y_loadB1 (hC.ownAt 0 rfl) rfl Try.isAgg9 rfl) fun a hs => ?_
  refine gv hs 15 rfl rfl hC (fun w hC => y_fieldAddr (o' := 3) Try.runUnderlying33 rfl Try.sizeOf9 rfl rfl rfl) fun a hs => ?_
  refine gv hs 16 rfl rfl hC (fun w hC => y_loadB1 (hC.ownAt 1 rfl) rfl Try.isAgg9 rfl) fun a hs => ?_
  refine gv hs 17 rfl rfl hC (fun w hC => y_fieldAddr (o' := 3) Try.runUnderlying33 rfl Try.sizeOf9 rfl rfl rfl) fun a hs => ?_
  refine gv hs 18 rfl rfl hC (fun w hC => y_loadB1 (hC.ownAt 0 rfl) rfl Try.isAgg9 rfl) fun a hs => ?_
  refine ho 4 rfl ?_
  refine st_callR hs (cmp_Compare_string_ok h5 hw.bdom) (do_call Try.call70 rfl) trivial rfl rfl ?_
  intro v21 Sv18 w a h19 h20 hs
  subst h20
  have hw := hw.callB h19
  refine h_nx (hw.cs [0, 1] [] rfl rfl) fun hC => ?_
  refine ho 9 rfl ?_
  refine st_callR hs (cmp_Compare_string_ok h7 hw.bdom) (do_call Try.call70 rfl) trivial rfl rfl ?_
  intro v26 Sv23 w a h24 h25 hs
  subst h25
  have hw := hw.callB h24
  refine h_nx (hw.cs [0, 1] [] rfl rfl) fun hC => ?_
  refine ho 14 rfl ?_
  refine st_callR hs (cmp_Compare_string_ok h9 hw.bdom) (do_call Try.call70 rfl) trivial rfl rfl ?_
  intro v31 Sv28 w a h29 h30 hs
  subst h30
  have hw := hw.callB h29
  refine h_nx (hw.cs [0, 1] [] rfl rfl) fun hC => ?_
  refine ho 19 rfl ?_
  refine st_callR hs (cmp_Compare_string_ok h11 hw.bdom) (do_call Try.call70 rfl) trivial rfl rfl ?_
  intro v36 Sv33 w a h34 h35 hs
  subst h35
  have hw := hw.callB h34
  refine h_nx (hw.cs [0, 1] [] rfl rfl) fun hC => ?_
  refine ho 20 rfl ?_
  refine w_litSlice (α := Int) (vs := [.int .i64 rv6, .int .i64 rv8, .int .i64 rv10, .int .i64 rv12]) (cs := [.int .i64 rv6, .int .i64 rv8, .int .i64 rv10, .int .i64 rv12]) (xs := ([rv6, rv8, rv10, rv12] : List Int)) hs hw El22 rfl rfl rfl rfl rfl rfl ⟨⟨_, rfl, rfl⟩, ⟨⟨_, rfl, rfl⟩, ⟨⟨_, rfl, rfl⟩, ⟨⟨_, rfl, rfl⟩, rfl⟩⟩⟩⟩ rfl trivial rfl fun b14 a w hs hw => ?_
  refine h_nx (hw.cs [1, 2] [] rfl rfl) fun hC => ?_
  refine h_st (C' := Cls [.box b4 [.string b2.Network, .string b2.Station, .string b2.Location, .string b2.Channel] 33, .box b3 [.string a1.Network, .string a1.Station, .string a1.Location, .string a1.Channel] 33, .row (some ⟨b14, 0, none⟩) ([rv6, rv8, rv10, rv12] : List Int).length ([rv6, rv8, rv10, rv12] : List Int).length [.int .i64 rv6, .int .i64 rv8, .int .i64 rv10, .int .i64 rv12] 3 1] []) (fun _ h => by exact h.sub [0, 1] (Sel.of rfl) (AllIn.of [] rfl)) (hw.cs [1, 2, 0] [] rfl rfl) fun hC => ?_
  refine ho 21 rfl ?_
  refine st_callR hs (cmp_Or_int_ok h15 hw.bdom (hw.bRow 0 rfl 0 rfl)) (do_call Try.call47 rfl) trivial rfl rfl ?_
  intro v41 Sv38 w a h39 h40 hs
  subst h40
  have hw := hw.callB h39
  refine h_nx (hw.cs [1, 2, 0] [] rfl rfl) fun hC => ?_
  refine gv hs 22 rfl rfl hC (fun w hC => y_assign rfl) fun a hs => ?_
  refine h_done (by kernel_rfl) ?_
  exact ⟨S0, (hs.wk rfl), (hw.ft [] [] (by decide) rfl rfl)⟩
 rintro a w ⟨Sv17, hs, hw⟩
 refine then_normal ?_
 have hsh := oi hsh
 subst hsh
 refine wp_ret ?_
 exact ret1 hs rfl (rv_tmp rfl) (hw.ret rfl)

abbrev picker_Compare_rd (w0 : World) (X : List Nat) (r : Int) : (Nat → Prop) → World → Value → Prop := fun S w v => v = .int .i64 r
set_option maxHeartbeats 4000000 in
set_option maxRecDepth 100000 in
theorem picker_Compare_ok {w0 : World} {S0 : Nat → Prop} {a1 : Pick} {b2 : Pick} {r : Int} (hsh : picker_Compare a1 b2 = some r) (hS : ∀ b, S0 b → b < w0.heap.size) : Calls Try.prog 25 #[.agg #[.string a1.Source.Network, .string a1.Source.Station, .string a1.Source.Location, .string a1.Source.Channel, .int .i64 a1.Time, .int .i64 a1.Early, .int .i64 a1.Late, .int .i64 a1.Amplitude, .int .i64 a1.Polarity], .agg #[.string b2.Source.Network, .string b2.Source.Station, .string b2.Source.Location, .string b2.Source.Channel, .int .i64 b2.Time, .int .i64 b2.Early, .int .i64 b2.Late, .int .i64 b2.Amplitude, .int .i64 b2.Polarity]] w0 (Ret ([]) w0 S0 (picker_Compare_rd w0 ([]) r)) := by
 refine calls_of_wp Try.func25 rfl ?_
 have hs := Sl.enter #[.agg #[.string a1.Source.Network, .string a1.Source.Station, .string a1.Source.Location, .string a1.Source.Channel, .int .i64 a1.Time, .int .i64 a1.Early, .int .i64 a1.Late, .int .i64 a1.Amplitude, .int .i64 a1.Polarity], .agg #[.string b2.Source.Network, .string b2.Source.Station, .string b2.Source.Location, .string b2.Source.Channel, .int .i64 b2.Time, .int .i64 b2.Early, .int .i64 b2.Late, .int .i64 b2.Amplitude, .int .i64 b2.Polarity]] 37 [(0, .agg #[.string a1.Source.Network, .string a1.Source.Station, .string a1.Source.Location, .string a1.Source.Channel, .int .i64 a1.Time, .int .i64 a1.Early, .int .i64 a1.Late, .int .i64 a1.Amplitude, .int .i64 a1.Polarity]), (1, .agg #[.string b2.Source.Network, .string b2.Source.Station, .string b2.Source.Location, .string b2.Source.Channel, .int .i64 b2.Time, .int .i64 b2.Early, .int .i64 b2.Late, .int .i64 b2.Amplitude, .int .i64 b2.Polarity])] rfl ⟨rfl, rfl, trivial⟩
 have hw := Wd.enter (E := []) hS (fun _ h => (by cases h))
 delta picker_Compare at hsh
 refine sr ?_
 refine w_box (cs := [.string a1.Source.Network, .string a1.Source.Station, .string a1.Source.Location, .string a1.Source.Channel, .int .i64 a1.Time, .int .i64 a1.Early, .int .i64 a1.Late, .int .i64 a1.Amplitude, .int .i64 a1.Polarity]) hs hw rfl rfl rfl trivial ?_
 intro b3 a w hs hw
 refine w_box (cs := [.string b2.Source.Network, .string b2.Source.Station, .string b2.Source.Location, .string b2.Source.Channel, .int .i64 b2.Time, .int .i64 b2.Early, .int .i64 b2.Late, .int .i64 b2.Amplitude, .int .i64 b2.Polarity]) hs hw rfl rfl rfl trivial ?_
 intro b4 a w hs hw
 refine av hs rfl rfl fun a hs => ?_
 refine nl ?_
 refine wp_seq ?_
 obtain ⟨rv6, h5, hsh⟩ := bind_t hsh
 obtain ⟨rv8, h7, hsh⟩ := bind_t hsh
 obtain ⟨rv10, h9, hsh⟩ := bind_t hsh
 obtain ⟨rv12, h11, hsh⟩ := bind_t hsh
 obtain ⟨rv14, h13, hsh⟩ := bind_t hsh
 obtain ⟨rv16, h15, hsh⟩ := bind_t hsh
 obtain ⟨rv20, h19, hsh⟩ := bind_t hsh
 refine wp_only (fun a w => ∃ (Sv21 : Nat → Prop), Sl 37 [(4, .int .i64 rv20)] a ∧ Wd ⟨w0, S0, []⟩ Sv21 [] [] w) ?_ ?_
 ·refine h_b (C := Cls [.box b4 [.string b2.Source.Network, .string b2.Source.Station, .string b2.Source.Location, .string b2.Source.Channel, .int .i64 b2.Time, .int .i64 b2.Early, .int .i64 b2.Late, .int .i64 b2.Amplitude, .int .i64 b2.Polarity] 46, .box b3 [.string a1.Source.Network, .string a1.Source.Station, .string a1.Source.Location, .string a1.Source.Channel, .int .i64 a1.Time, .int .i64 a1.Early, .int .i64 a1.Late, .int .i64 a1.Amplitude, .int .i64 a1.Polarity] 46] []) (by kernel_rfl) rfl (hw.drew.cs [0, 1] [] rfl rfl) fun hC => ?_
  have hw := hw.drew
  refine gv hs 0 rfl rfl hC (fun w hC => y_fieldAddr (o' := 0) Try.runUnderlying46 rfl Try.sizeOf33 rfl rfl rfl) fun a hs => ?_
  refine gv hs 1 rfl rfl hC (fun w hC => y_loadBA (hC.ownAt 1 rfl) rfl Try.isAgg33 Try.sizeOf33 rfl rfl) fun a hs => ?_
  refine gv hs 2 rfl rfl hC (fun w hC => y_fieldAddr (o' := 0) Try.runUnderlying46 rfl Try.sizeOf33 rfl rfl rfl) fun a hs => ?_
  refine gv hs 3 rfl rfl hC (fun w hC => y_loadBA (hC.ownAt 0 rfl) rfl Try.isAgg33 Try.sizeOf33 rfl rfl) fun a hs => ?_
  refine gv hs 5 rfl rfl hC (fun w hC => y_fieldAddr (o' := 4) Try.runUnderlying46 rfl Try.sizeOf3 rfl rfl rfl) fun a hs => ?_
  refine gv hs 6 rfl rfl hC (fun w hC => y_loadB1 (hC.ownAt 1 rfl) rfl Try.isAgg3 rfl) fun a hs => ?_
  refine gv hs 7 rfl rfl hC (fun w hC => y_fieldAddr (o' := 4) Try.runUnderlying46 rfl Try.sizeOf3 rfl rfl rfl) fun a hs => ?_
  refine gv hs 8 rfl rfl hC (fun w hC => y_loadB1 (hC.ownAt 0 rfl) rfl Try.isAgg3 rfl) fun a hs => ?_
  refine gv hs 10 rfl rfl hC (fun w hC => y_fieldAddr (o' := 5) Try.runUnderlying46 rfl Try.sizeOf3 rfl rfl rfl) fun a hs => ?_
  refine gv hs 11 rfl rfl hC (fun w hC => y_loadB1 (hC.ownAt 1 rfl) rfl Try.isAgg3 rfl) fun a hs => ?_
  refine gv hs 12 rfl rfl hC (fun w hC => y_fieldAddr (o' := 5) Try.runUnderlying46 rfl Try.sizeOf3 rfl rfl rfl) fun a hs => ?_
  refine gv hs 13 rfl rfl hC (fun w hC => y_loadB1 (hC.ownAt 0 rfl) rfl Try.isAgg3 rfl) fun a hs => ?_
  refine gv hs 15 rfl rfl hC (fun w hC => y_fieldAddr (o' := 6) Try.runUnderlying46 rfl Try.sizeOf3 rfl rfl rfl) fun a hs => ?_
  refine gv hs 16 rfl rfl hC (fun w hC => y_loadB1 (hC.ownAt 1 rfl) rfl Try.isAgg3 rfl) fun a hs => ?_
  refine gv hs 17 rfl rfl hC (fun w hC => y_fieldAddr (o' := 6) Try.runUnderlying46 rfl Try.sizeOf3 rfl rfl rfl) fun a hs => ?_
  refine gv hs 18 rfl rfl hC (fun w hC => y_loadB1 (hC.ownAt 0 rfl) rfl Try.isAgg3 rfl) fun a hs => ?_
  refine gv hs 20 rfl rfl hC (fun w hC => y_fieldAddr (o' := 7) Try.runUnderlying46 rfl Try.sizeOf3 rfl rfl rfl) fun a hs => ?_
  refine gv hs 21 rfl rfl hC (fun w hC => y_loadB1 (hC.ownAt 1 rfl) rfl Try.isAgg3 rfl) fun a hs => ?_
  refine gv hs 22 rfl rfl hC (fun w hC => y_fieldAddr (o' := 7) Try.runUnderlying46 rfl Try.sizeOf3 rfl rfl rfl) fun a hs => ?_
  refine gv hs 23 rfl rfl hC (fun w hC => y_loadB1 (hC.ownAt 0 rfl) rfl Try.isAgg3 rfl) fun a hs => ?_
  refine gv hs 25 rfl rfl hC (fun w hC => y_fieldAddr (o' := 8) Try.runUnderlying46 rfl Try.sizeOf3 rfl rfl rfl) fun a hs => ?_
  refine gv hs 26 rfl rfl hC (fun w hC => y_loadB1 (hC.ownAt 1 rfl) rfl Try.isAgg3 rfl) fun a hs => ?_
  refine gv hs 27 rfl rfl hC (fun w hC => y_fieldAddr (o' := 8) Try.runUnderlying46 rfl Try.sizeOf3 rfl rfl rfl) fun a hs => ?_
  refine gv hs 28 rfl rfl hC (fun w hC => y_loadB1 (hC.ownAt 0 rfl) rfl Try.isAgg3 rfl) fun a hs => ?_
  refine ho 4 rfl ?_
  refine st_callR hs (source_Compare_ok h5 hw.bdom) (do_call Try.call48 rfl) trivial rfl rfl ?_
  intro v25 Sv22 w a h23 h24 hs
  subst h24
  have hw := hw.callB h23
  refine h_nx (hw.cs [0, 1] [] rfl rfl) fun hC => ?_
  refine ho 9 rfl ?_
  refine st_callR hs (cmp_Compare_int_ok h7 hw.bdom) (do_call Try.call49 rfl) trivial rfl rfl ?_
  intro v30 Sv27 w a h28 h29 hs
  subst h29
  have hw := hw.callB h28
  refine h_nx (hw.cs [0, 1] [] rfl rfl) fun hC => ?_
  refine ho 14 rfl ?_
  refine st_callR hs (cmp_Compare_int_ok h9 hw.bdom) (do_call Try.call49 rfl) trivial rfl rfl ?_
  intro v35 Sv32 w a h33 h34 hs
  subst h34
  have hw := hw.callB h33
  refine h_nx (hw.cs [0, 1] [] rfl rfl) fun hC => ?_
  refine ho 19 rfl ?_
  refine st_callR hs (cmp_Compare_int_ok h11 hw.bdom) (do_call Try.call49 rfl) trivial rfl rfl ?_
  intro v40 Sv37 w a h38 h39 hs
  subst h39
  have hw := hw.callB h38
  refine h_nx (hw.cs [0, 1] [] rfl rfl) fun hC => ?_
  refine ho 24 rfl ?_
  refine st_callR hs (cmp_Compare_int_ok h13 hw.bdom) (do_call Try.call49 rfl) trivial rfl rfl ?_
  intro v45 Sv42 w a h43 h44 hs
  subst h44
  have hw := hw.callB h43
  refine h_nx (hw.cs [0, 1] [] rfl rfl) fun hC => ?_
  refine ho 29 rfl ?_
  refine st_callR hs (cmp_Compare_int_ok h15 hw.bdom) (do_call Try.call49 rfl) trivial rfl rfl ?_
  intro v50 Sv47 w a h48 h49 hs
  subst h49
  have hw := hw.callB h48
  refine h_nx (hw.cs [0, 1] [] rfl rfl) fun hC => ?_
  refine ho 30 rfl ?_
  refine w_litSlice (α := Int) (vs := [.int .i64 rv6, .int .i64 rv8, .int .i64 rv10, .int .i64 rv12, .int .i64 rv14, .int .i64 rv16]) (cs := [.int .i64 rv6, .int .i64 rv8, .int .i64 rv10, .int .i64 rv12, .int .i64 rv14, .int .i64 rv16]) (xs := ([rv6, rv8, rv10, rv12, rv14, rv16] : List Int)) hs hw El22 rfl rfl rfl rfl rfl rfl ⟨⟨_, rfl, rfl⟩, ⟨⟨_, rfl, rfl⟩, ⟨⟨_, rfl, rfl⟩, ⟨⟨_, rfl, rfl⟩, ⟨⟨_, rfl, rfl⟩, ⟨⟨_, rfl, rfl⟩, rfl⟩⟩⟩⟩⟩⟩ rfl trivial rfl fun b18 a w hs hw => ?_
  refine h_nx (hw.cs [1, 2] [] rfl rfl) fun hC => ?_
  refine h_st (C' := Cls [.box b4 [.string b2.Source.Network, .string b2.Source.Station, .string b2.Source.Location, .string b2.Source.Channel, .int .i64 b2.Time, .int .i64 b2.Early, .int .i64 b2.Late, .int .i64 b2.Amplitude, .int .i64 b2.Polarity] 46, .box b3 [.string a1.Source.Network, .string a1.Source.Station, .string a1.Source.Location, .string a1.Source.Channel, .int .i64 a1.Time, .int .i64 a1.Early, .int .i64 a1.Late, .int .i64 a1.Amplitude, .int .i64 a1.Polarity] 46, .row (some ⟨b18, 0, none⟩) ([rv6, rv8, rv10, rv12, rv14, rv16] : List Int).length ([rv6, rv8, rv10, rv12, rv14, rv16] : List Int).length [.int .i64 rv6, .int .i64 rv8, .int .i64 rv10, .int .i64 rv12, .int .i64 rv14, .int .i64 rv16] 3 1] []) (fun _ h => by exact h.sub [0, 1] (Sel.of rfl) (AllIn.of [] rfl)) (hw.cs [1, 2, 0] [] rfl rfl) fun hC => ?_
  refine ho 31 rfl ?_
  refine st_callR hs (cmp_Or_int_ok h19 hw.bdom (hw.bRow 0 rfl 0 rfl)) (do_call Try.call47 rfl) trivial rfl rfl ?_
  intro v55 Sv52 w a h53 h54 hs
  subst h54
  have hw := hw.callB h53
  refine h_nx (hw.cs [1, 2, 0] [] rfl rfl) fun hC => ?_
  refine gv hs 32 rfl rfl hC (fun w hC => y_assign rfl) fun a hs => ?_
  refine h_done (by kernel_rfl) ?_
  exact ⟨S0, (hs.wk rfl), (hw.ft [] [] (by decide) rfl rfl)⟩
 rintro a w ⟨Sv21, hs, hw⟩
 refine then_normal ?_
 have hsh := oi hsh
 subst hsh
 refine wp_ret ?_
 exact ret1 hs rfl (rv_tmp rfl) (hw.ret rfl)

theorem picker_Compare_fn (S0 : Nat → Prop) (w0 : World) : (FnA2 Try.prog 25 [] [] picker_Compare).p S0 w0 := by
  refine ⟨Try.call25, ?_⟩
  intro S1 w1 hk hS c0 c1 x0 x1 r1 h0 h1 hf
  obtain ⟨_, _, _, _, _, _, _, _, _, rfl, rfl, rfl, rfl, rfl, rfl, rfl, rfl, rfl, rfl⟩ := h0
  obtain ⟨_, _, _, _, _, _, _, _, _, rfl, rfl, rfl, rfl, rfl, rfl, rfl, rfl, rfl, rfl⟩ := h1
  exact picker_Compare_ok hf hS  

abbrev slices_Compact_Lapi_Pick_api_Pick_rd (w0 : World) (X : List Nat) (r : (List Pick)) : (Nat → Prop) → World → Value → Prop := fun S w v => ∃ (p0_0 : Option Addr) (k0_0 : Nat) (c0_0 : List Value), v = .slice p0_0 r.length k0_0 ∧ Outs X w0 S w [.row p0_0 r.length k0_0 c0_0 46 9] ∧ (RowA c0_0 r).p S w
set_option maxHeartbeats 4000000 in
set_option maxRecDepth 100000 in
theorem slices_Compact_Lapi_Pick_api_Pick_ok {w0 : World} {S0 : Nat → Prop} {p2 : Option Addr} {k3 : Nat} {c4 : List Value} {s1 : (List Pick)} {r : (List Pick)} (hsh : slices_Compact_Lapi_Pick_api_Pick s1 = some r) (hS : ∀ b, S0 b → b < w0.heap.size) (hin : Ins S0 w0 [.row p2 s1.length k3 c4 46 9]) (h5 : (RowA c4 s1).p S0 w0) : Calls Try.prog 43 #[.slice p2 s1.length k3] w0 (Ret (blks [.row p2 s1.length k3 c4 46 9]) w0 S0 (slices_Compact_Lapi_Pick_api_Pick_rd w0 (blks [.row p2 s1.length k3 c4 46 9]) r)) := by
 refine calls_of_wp Try.func43 rfl ?_
 have hs := Sl.enter #[.slice p2 s1.length k3] 61 [(0, .slice p2 s1.length k3)] rfl ⟨rfl, trivial⟩
 have hw := Wd.enterI hS hin
 have hw := hw.addE h5
 have hw := hw.addE (e := LenA s1.length s1) len_rfl
 delta slices_Compact_Lapi_Pick_api_Pick at hsh
 refine sr ?_
 refine av hs rfl rfl fun a hs => ?_
 refine nl ?_
 refine wp_seq ?_
 refine sr ?_
 refine mv hs rfl rfl fun a hs => ?_
 refine sv hs (y_len Try.runUnderlying41 rfl) rfl fun a hs => ?_
 refine sv hs (y_lss rfl rfl) rfl fun a hs => ?_
 refine nl ?_
 refine wp_cond_split (hs.ev rfl) (fun h7 => ?_) (fun h7 => ?_)
 ·have hsh := ite_t hsh h7
  refine sr ?_
  refine mv hs rfl rfl fun a hs => ?_
  refine av hs rfl rfl fun a hs => ?_
  refine nl ?_
  have hsh := oi hsh
  subst hsh
  refine wp_ret ?_
  refine then_ret ?_
  exact ret1 hs rfl (rv_tmp rfl) (hw.ret ⟨p2, k3, c4, rfl, (hw.outs [0] (by decide) rfl), (hw.envAt 1 rfl)⟩)
 have hsh := ite_f hsh h7
 refine wp_skip ?_
 refine then_normal ?_
 refine wp_seq ?_
 refine sr ?_
 refine av hs rfl rfl fun a hs => ?_
 refine nl ?_
 refine wp_block ?_
 refine wp_while (fun sv628 a w => ∃ (Sv1040 : Nat → Prop), Sl 61 [(0, .slice p2 s1.length k3), (3, .int .i64 sv628)] a ∧ Wd ⟨w0, S0, blks [.row p2 s1.length k3 c4 46 9]⟩ Sv1040 [.row p2 s1.length k3 c4 46 9] [RowA c4 s1, LenA s1.length s1] w) 1 hsh ⟨S0, (hs.wk rfl), (hw.ft [0] [1, 0] (by decide) rfl rfl)⟩ ?_
 repeat clear hsh
 rintro sv628 a w tv1247 ⟨Sv1040, hs, hw⟩ hsh hd1246
 delta slices_Compact_Lapi_Pick_api_Pick_l7 at hsh
 refine wp_seq ?_
 refine sr ?_
 refine mv hs rfl rfl fun a hs => ?_
 refine mv hs rfl rfl fun a hs => ?_
 refine sv hs (y_len Try.runUnderlying41 rfl) rfl fun a hs => ?_
 refine sv hs (y_lss rfl rfl) rfl fun a hs => ?_
 refine nl ?_
 refine wp_cond_split (hs.ev rfl) (fun h1251 => ?_) (fun h1251 => ?_)
 ·have hsh := ite_t hsh h1251
  refine wp_skip ?_
  refine then_normal ?_
  refine wp_seq ?_
  refine wp_block ?_
  refine wp_seq ?_
  obtain ⟨x1456, h1454, hsh⟩ := bind_t hsh
  obtain ⟨b1463, q1460, c1461, h1464, h1457, h1458, h1462, h1455⟩ := hw.elemRV (α := Pick) 0 rfl 0 rfl h1454
  have hsv1465 := hs
  have hwv1466 := hw
  subst h1464
  have hs := hsv1465
  have hw := hwv1466
  obtain ⟨_, _, _, _, _, _, _, _, _, rfl, rfl, rfl, rfl, rfl, rfl, rfl, rfl, rfl, rfl⟩ := h1455
  obtain ⟨x1469, h1467, hsh⟩ := bind_t hsh
  obtain ⟨q1473, c1474, h1470, h1471, h1475, h1468⟩ := hw.elemRK (α := Pick) 0 rfl 0 rfl h1467
  obtain ⟨_, _, _, _, _, _, _, _, _, rfl, rfl, rfl, rfl, rfl, rfl, rfl, rfl, rfl, rfl⟩ := h1468
  refine wp_only (fun a w => ∃ (Sv1476 : Nat → Prop), Sl 61 [(0, .slice (some ⟨b1463, 0, none⟩) s1.length k3), (3, .int .i64 sv628), (25, .bool (((x1456.Source.Network == x1469.Source.Network) && ((x1456.Source.Station == x1469.Source.Station) && ((x1456.Source.Location == x1469.Source.Location) && ((x1456.Source.Channel == x1469.Source.Channel) && true)))) && ((x1456.Time == x1469.Time) && ((x1456.Early == x1469.Early) && ((x1456.Late == x1469.Late) && ((x1456.Amplitude == x1469.Amplitude) && ((x1456.Polarity == x1469.Polarity) && true)))))))] a ∧ Wd ⟨w0, S0, blks [.row (some ⟨b1463, 0, none⟩) s1.length k3 c4 46 9]⟩ Sv1476 [.row (some ⟨b1463, 0, none⟩) s1.length k3 c4 46 9] [RowA c4 s1, LenA s1.length s1] w) ?_ ?_
  ·refine h_b (C := Cls [.row (some ⟨b1463, 0, none⟩) s1.length k3 c4 46 9] []) (by kernel_rfl) rfl (hw.drew.cs [0] [] rfl rfl) fun hC => ?_
   have hw := hw.drew
   refine gm hs 0 rfl rfl rfl hC fun a hs => ?_
   refine gm hs 1 rfl rfl rfl hC fun a hs => ?_
   refine gv hs 2 rfl rfl hC (fun w hC => y_indexAt Try.runUnderlying41 Try.sizeOf46 rfl rfl h1457.1 h1457.2 h1458) fun a hs => ?_
   refine gv hs 3 rfl rfl hC (fun w hC => y_loadQA (j := 0) (hC.ownAt 0 rfl) rfl Try.isAgg46 Try.sizeOf46 h1462 rfl rfl) fun a hs => ?_
   refine gm hs 4 rfl rfl rfl hC fun a hs => ?_
   refine gm hs 5 rfl rfl rfl hC fun a hs => ?_
   refine gv hs 6 rfl rfl hC (fun w hC => y_sub rfl rfl) fun a hs => ?_
   refine gv hs 7 rfl rfl hC (fun w hC => y_indexAt Try.runUnderlying41 Try.sizeOf46 rfl rfl h1470.1 h1470.2 h1471) fun a hs => ?_
   refine gv hs 8 rfl rfl hC (fun w hC => y_loadQA (j := 0) (hC.ownAt 0 rfl) rfl Try.isAgg46 Try.sizeOf46 h1475 rfl rfl) fun a hs => ?_
   refine gv hs 9 rfl rfl hC (fun w hC => y_eqlA (by kernel_rfl) rfl rfl (eqv_struct Try.runUnderlying46 (by kernel_rfl) (EqF.consA rfl Try.isAgg33 Try.sizeOf33 rfl rfl (eqv_struct Try.runUnderlying33 (by kernel_rfl) (EqF.cons1 rfl Try.isAgg9 rfl rfl (eqv_str Try.runUnderlying9) (EqF.cons1 rfl Try.isAgg9 rfl rfl (eqv_str Try.runUnderlying9) (EqF.cons1 rfl Try.isAgg9 rfl rfl (eqv_str Try.runUnderlying9) (EqF.cons1 rfl Try.isAgg9 rfl rfl (eqv_str Try.runUnderlying9) EqF.nil))))) (EqF.cons1 rfl Try.isAgg3 rfl rfl (eqv_int Try.runUnderlying3) (EqF.cons1 rfl Try.isAgg3 rfl rfl (eqv_int Try.runUnderlying3) (EqF.cons1 rfl Try.isAgg3 rfl rfl (eqv_int Try.runUnderlying3) (EqF.cons1 rfl Try.isAgg3 rfl rfl (eqv_int Try.runUnderlying3) (EqF.cons1 rfl Try.isAgg3 rfl rfl (eqv_int Try.runUnderlying3) EqF.nil)))))))) fun a hs => ?_
   refine h_done (by kernel_rfl) ?_
   exact ⟨Sv1040, (hs.wk rfl), (hw.ft [0] [0, 1] (by decide) rfl rfl)⟩
  rintro a w ⟨Sv1476, hs, hw⟩
  refine then_normal ?_
  refine wp_cond_split (hs.ev rfl) (fun h1656 => ?_) (fun h1656 => ?_)
  ·have hsh := ite_t hsh h1656
   refine sr ?_
   refine mv hs rfl rfl fun a hs => ?_
   refine mv hs rfl rfl fun a hs => ?_
   obtain ⟨l1661, h1657, hsh⟩ := bind_t hsh
   obtain ⟨o1659, k1660, h1658⟩ := row_sub_at (α := Pick) hw 0 rfl h1657
   refine sv hs (y_slc Try.runUnderlying41 Try.sizeOf46 rfl ⟨_, rfl⟩ (by exact rfl) h1658) rfl fun a hs => ?_
   refine av hs rfl rfl fun a hs => ?_
   refine nl ?_
   refine wp_seq ?_
   refine sr ?_
   refine av hs rfl rfl fun a hs => ?_
   refine nl ?_
   obtain ⟨e1817, h1958, hsh⟩ := bind_t hsh
   refine wp_join (fun a w => ∃ (c1818 : List Value) (Sv1819 : Nat → Prop), Sl 61 [(0, .slice (some ⟨b1463, 0, none⟩) e1817.1.length k3), (3, .int .i64 e1817.2)] a ∧ Wd ⟨w0, S0, blks [.row (some ⟨b1463, 0, none⟩) s1.length k3 c4 46 9]⟩ Sv1819 [.row (some ⟨b1463, 0, none⟩) e1817.1.length k3 c1818 46 9] [RowA c1818 e1817.1, LenA s1.length e1817.1] w) ?_ ?_
   ·refine wp_block ?_
    refine wp_while (fun sv1662 a w => ∃ (c1763 : List Value) (Sv1764 : Nat → Prop), Sl 61 [(0, .slice (some ⟨b1463, 0, none⟩) sv1662.1.length k3), (3, .int .i64 sv1662.2.1), (4, .slice (some ⟨b1463, o1659, none⟩) l1661.length k1660), (5, .int .i64 sv1662.2.2)] a ∧ Wd ⟨w0, S0, blks [.row (some ⟨b1463, 0, none⟩) s1.length k3 c4 46 9]⟩ Sv1764 [.row (some ⟨b1463, 0, none⟩) sv1662.1.length k3 c1763 46 9] [RowA c1763 sv1662.1, LenA s1.length sv1662.1] w) (s1, sv628, 1) h1958 ⟨c4, Sv1476, (hs.wk rfl), (hw.ft [0] [0, 1] (by decide) rfl rfl)⟩ ?_
    clear h1958
    repeat clear hsh
    rintro sv1662 a w tv1815 ⟨c1763, Sv1764, hs, hw⟩ hsh hd1814
    delta slices_Compact_Lapi_Pick_api_Pick_l11 at hsh
    refine wp_seq ?_
    refine sr ?_
    refine mv hs rfl rfl fun a hs => ?_
    refine mv hs rfl rfl fun a hs => ?_
    refine sv hs (y_len Try.runUnderlying41 rfl) rfl fun a hs => ?_
    refine sv hs (y_lss rfl rfl) rfl fun a hs => ?_
    refine nl ?_
    refine wp_cond_split (hs.ev rfl) (fun h1821 => ?_) (fun h1821 => ?_)
    ·have hsh := ite_t hsh h1821
     refine wp_skip ?_
     refine then_normal ?_
     refine wp_seq ?_
     refine wp_block ?_
     refine wp_seq ?_
     obtain ⟨x1875, h1868, hsh⟩ := bind_t hsh
     obtain ⟨q1873, c1874, h1870, h1871, h1872, h1869⟩ := hw.elemLK (α := Pick) 0 rfl 0 rfl h1658 h1868
     obtain ⟨_, _, _, _, _, _, _, _, _, rfl, rfl, rfl, rfl, rfl, rfl, rfl, rfl, rfl, rfl⟩ := h1869
     obtain ⟨x1883, h1876, hsh⟩ := bind_t hsh
     obtain ⟨q1881, c1882, h1878, h1879, h1880, h1877⟩ := hw.elemLK (α := Pick) 0 rfl 0 rfl h1658 h1876
     obtain ⟨_, _, _, _, _, _, _, _, _, rfl, rfl, rfl, rfl, rfl, rfl, rfl, rfl, rfl, rfl⟩ := h1877
     refine wp_only (fun a w => ∃ (Sv1884 : Nat → Prop), Sl 61 [(0, .slice (some ⟨b1463, 0, none⟩) sv1662.1.length k3), (3, .int .i64 sv1662.2.1), (4, .slice (some ⟨b1463, o1659, none⟩) l1661.length k1660), (5, .int .i64 sv1662.2.2), (44, .bool (!(((x1875.Source.Network == x1883.Source.Network) && ((x1875.Source.Station == x1883.Source.Station) && ((x1875.Source.Location == x1883.Source.Location) && ((x1875.Source.Channel == x1883.Source.Channel) && true)))) && ((x1875.Time == x1883.Time) && ((x1875.Early == x1883.Early) && ((x1875.Late == x1883.Late) && ((x1875.Amplitude == x1883.Amplitude) && ((x1875.Polarity == x1883.Polarity) && true))))))))] a ∧ Wd ⟨w0, S0, blks [.row (some ⟨b1463, 0, none⟩) s1.length k3 c4 46 9]⟩ Sv1884 [.row (some ⟨b1463, 0, none⟩) sv1662.1.length k3 c1763 46 9] [RowA c1763 sv1662.1, LenA s1.length sv1662.1] w) ?_ ?_
     ·refine h_b (C := Cls [.row (some ⟨b1463, 0, none⟩) sv1662.1.length k3 c1763 46 9] []) (by kernel_rfl) rfl (hw.drew.cs [0] [] rfl rfl) fun hC => ?_
      have hw := hw.drew
      refine gm hs 0 rfl rfl rfl hC fun a hs => ?_
      refine gm hs 1 rfl rfl rfl hC fun a hs => ?_
      refine gv hs 2 rfl rfl hC (fun w hC => y_indexAt Try.runUnderlying41 Try.sizeOf46 rfl rfl h1870.1 h1870.2 h1871) fun a hs => ?_
      refine gv hs 3 rfl rfl hC (fun w hC => y_loadQA (j := 0) (hC.ownAt 0 rfl) rfl Try.isAgg46 Try.sizeOf46 h1872 rfl rfl) fun a hs => ?_
      refine gm hs 4 rfl rfl rfl hC fun a hs => ?_
      refine gm hs 5 rfl rfl rfl hC fun a hs => ?_
      refine gv hs 6 rfl rfl hC (fun w hC => y_sub rfl rfl) fun a hs => ?_
      refine gv hs 7 rfl rfl hC (fun w hC => y_indexAt Try.runUnderlying41 Try.sizeOf46 rfl rfl h1878.1 h1878.2 h1879) fun a hs => ?_
      refine gv hs 8 rfl rfl hC (fun w hC => y_loadQA (j := 0) (hC.ownAt 0 rfl) rfl Try.isAgg46 Try.sizeOf46 h1880 rfl rfl) fun a hs => ?_
      refine gv hs 9 rfl rfl hC (fun w hC => y_neqA (by kernel_rfl) rfl rfl (eqv_struct Try.runUnderlying46 (by kernel_rfl) (EqF.consA rfl Try.isAgg33 Try.sizeOf33 rfl rfl (eqv_struct Try.runUnderlying33 (by kernel_rfl) (EqF.cons1 rfl Try.isAgg9 rfl rfl (eqv_str Try.runUnderlying9) (EqF.cons1 rfl Try.isAgg9 rfl rfl (eqv_str Try.runUnderlying9) (EqF.cons1 rfl Try.isAgg9 rfl rfl (eqv_str Try.runUnderlying9) (EqF.cons1 rfl Try.isAgg9 rfl rfl (eqv_str Try.runUnderlying9) EqF.nil))))) (EqF.cons1 rfl Try.isAgg3 rfl rfl (eqv_int Try.runUnderlying3) (EqF.cons1 rfl Try.isAgg3 rfl rfl (eqv_int Try.runUnderlying3) (EqF.cons1 rfl Try.isAgg3 rfl rfl (eqv_int Try.runUnderlying3) (EqF.cons1 rfl Try.isAgg3 rfl rfl (eqv_int Try.runUnderlying3) (EqF.cons1 rfl Try.isAgg3 rfl rfl (eqv_int Try.runUnderlying3) EqF.nil)))))))) fun a hs => ?_
      refine h_done (by kernel_rfl) ?_
      exact ⟨Sv1764, (hs.wk rfl), (hw.ft [0] [0, 1] (by decide) rfl rfl)⟩
     rintro a w ⟨Sv1884, hs, hw⟩
     refine then_normal ?_
     refine wp_join (fun a w => ∃ (sv1912 : (List Pick)) (k1913 : Int) (c1910 : List Value) (Sv1911 : Nat → Prop), slices_Compact_Lapi_Pick_api_Pick_j1 sv1662 sv1912 k1913 = some tv1815 ∧ Sl 61 [(0, .slice (some ⟨b1463, 0, none⟩) sv1912.length k3), (3, .int .i64 k1913), (4, .slice (some ⟨b1463, o1659, none⟩) l1661.length k1660), (5, .int .i64 sv1662.2.2)] a ∧ Wd ⟨w0, S0, blks [.row (some ⟨b1463, 0, none⟩) s1.length k3 c4 46 9]⟩ Sv1911 [.row (some ⟨b1463, 0, none⟩) sv1912.length k3 c1910 46 9] [RowA c1910 sv1912, LenA s1.length sv1912] w) ?_ ?_
     ·refine wp_cond_split (hs.ev rfl) (fun h1916 => ?_) (fun h1916 => ?_)
      ·have hsh := ite_t hsh h1916
       refine sr ?_
       refine mv hs rfl rfl fun a hs => ?_
       refine mv hs rfl rfl fun a hs => ?_
       refine mv hs rfl rfl fun a hs => ?_
       refine mv hs rfl rfl fun a hs => ?_
       obtain ⟨x1924, h1917, hsh⟩ := bind_t hsh
       obtain ⟨q1922, c1923, h1919, h1920, h1921, h1918⟩ := hw.elemLK (α := Pick) 0 rfl 0 rfl h1658 h1917
       obtain ⟨_, _, _, _, _, _, _, _, _, rfl, rfl, rfl, rfl, rfl, rfl, rfl, rfl, rfl, rfl⟩ := h1918
       refine sv hs (y_indexAt Try.runUnderlying41 Try.sizeOf46 rfl rfl h1919.1 h1919.2 h1920) rfl fun a hs => ?_
       refine sv hs (y_loadQA (j := 0) (hw.ownAt 0 rfl) rfl Try.isAgg46 Try.sizeOf46 h1921 rfl rfl) rfl fun a hs => ?_
       obtain ⟨x1927, h1925, hsh⟩ := bind_t hsh
       obtain ⟨q1931, c1932, h1928, h1929, h1933, h1926⟩ := hw.elemRK (α := Pick) 0 rfl 0 rfl h1925
       obtain ⟨_, _, _, _, _, _, _, _, _, rfl, rfl, rfl, rfl, rfl, rfl, rfl, rfl, rfl, rfl⟩ := h1926
       refine sv hs (y_indexAt Try.runUnderlying41 Try.sizeOf46 rfl rfl h1928.1 h1928.2 h1929) rfl fun a hs => ?_
       obtain ⟨l1935, h1934, hsh⟩ := bind_t hsh
       have h1938 := hw.envAt 1 rfl
       refine w_storeF (α := Pick) hs hw 0 rfl 0 rfl h1929 rfl rfl Try.sizeOf46 rfl h1934 ⟨_, _, _, _, _, _, _, _, _, rfl, rfl, rfl, rfl, rfl, rfl, rfl, rfl, rfl, rfl⟩ trivial ?_
       intro c1936 a w hs hw
       have hw := hw.addE (e := LenA s1.length l1935) (len_set (w := w) (S := S0) h1938 h1934)
       have h1937 := setM_len h1934
       try have hs := hs.fl 0 rfl h1937
       try have hs := hs.fl 45 rfl h1937
       refine nl ?_
       refine wp_region_lit ?_
       refine mv hs rfl rfl fun a hs => ?_
       refine sv hs (y_add rfl rfl) rfl fun a hs => ?_
       obtain ⟨k1940, h1939, hsh⟩ := bind_t hsh
       refine sv hs (y_assignI rfl h1939) rfl fun a hs => ?_
       refine nl ?_
       exact ⟨l1935, k1940, c1936, Sv1884, hsh, (hs.wk rfl), (hw.ft [0] [1, 0] (by decide) rfl rfl)⟩
      have hsh := ite_f hsh h1916
      refine wp_skip ?_
      refine then_normal ?_
      exact ⟨sv1662.1, sv1662.2.1, c1763, Sv1884, hsh, (hs.wk rfl), (hw.ft [0] [0, 1] (by decide) rfl rfl)⟩
     rintro a w ⟨sv1912, k1913, c1910, Sv1911, hsh, hs, hw⟩
     delta slices_Compact_Lapi_Pick_api_Pick_j1 at hsh
     refine blk_normal ?_
     refine then_normal ?_
     refine wp_region_lit ?_
     refine mv hs rfl rfl fun a hs => ?_
     refine sv hs (y_add rfl rfl) rfl fun a hs => ?_
     obtain ⟨k2_1915, h1914, hsh⟩ := bind_t hsh
     refine sv hs (y_assignI rfl h1914) rfl fun a hs => ?_
     refine nl ?_
     exact ⟨_, (Option.some.inj hsh).symm, c1910, Sv1911, (hs.wk rfl), (hw.ft [0] [0, 1] (by decide) rfl rfl)⟩
    have hsh := ite_f hsh h1821
    refine wp_exit ?_
    refine then_exit ?_
    refine then_exit ?_
    refine blk_exit ?_
    have hsh := oi hsh
    subst hsh
    have h1941 := hd1814 _ rfl
    subst h1941
    refine then_normal ?_
    exact ⟨c1763, Sv1764, (hs.wk rfl), (hw.ft [0] [0, 1] (by decide) rfl rfl)⟩
   rintro a w ⟨c1818, Sv1819, hs, hw⟩
   refine then_normal ?_
   refine sr ?_
   refine mv hs rfl rfl fun a hs => ?_
   refine mv hs rfl rfl fun a hs => ?_
   obtain ⟨l1946, h1942, hsh⟩ := bind_t hsh
   obtain ⟨p1944, k1945, h1943⟩ := row_sub (α := Pick) hw 0 rfl h1942
   refine sv hs (y_slc Try.runUnderlying41 Try.sizeOf46 rfl ⟨_, rfl⟩ (by exact rfl) h1943) rfl fun a hs => ?_
   obtain ⟨l1947, h1948, hsh⟩ := bind_t hsh
   have h1953 := hw.envAt 1 rfl
   refine w_clear (α := Pick) (z0 := ((⟨(⟨ByteArray.empty, ByteArray.empty, ByteArray.empty, ByteArray.empty⟩ : SourceID), 0, 0, 0, 0, 0⟩ : Pick) : Pick)) hs hw 0 rfl 0 rfl El41 ⟨_, _, _, _, _, _, _, _, _, rfl, rfl, rfl, rfl, rfl, rfl, rfl, rfl, rfl, rfl⟩ h1942 h1943 rfl trivial ?_
   intro c1949 a w hs hw
   rw [Option.some.inj h1948] at hw
   have hw := hw.addE (e := LenA s1.length l1947) (by have q := len_copy (w := w) (S := S0) (S' := S0) (w' := w) (ys := List.replicate l1946.length ((⟨(⟨ByteArray.empty, ByteArray.empty, ByteArray.empty, ByteArray.empty⟩ : SourceID), 0, 0, 0, 0, 0⟩ : Pick) : Pick)) h1953 h1942; rw [Option.some.inj h1948] at q; exact q)
   have h1950 := (copy_lenS h1942 h1948)
   try have hs := hs.fl 0 rfl h1950
   try have hs := hs.fl 54 rfl h1950
   refine nl ?_
   refine sr ?_
   refine mv hs rfl rfl fun a hs => ?_
   refine mv hs rfl rfl fun a hs => ?_
   obtain ⟨l1956, h1954, hsh⟩ := bind_t hsh
   obtain ⟨hw, h1955⟩ := w_cut hw 0 rfl 1 rfl h1954
   refine sv hs (y_slc Try.runUnderlying41 Try.sizeOf46 rfl (by exact rfl) ⟨_, rfl⟩ h1955) rfl fun a hs => ?_
   refine av hs rfl rfl fun a hs => ?_
   refine nl ?_
   have hsh := oi hsh
   subst hsh
   have h1957 := hd1246 _ rfl
   subst h1957
   refine wp_ret ?_
   refine blk_ret ?_
   refine then_ret ?_
   refine then_ret ?_
   refine blk_ret ?_
   refine then_ret ?_
   exact ret1 hs rfl (rv_tmp rfl) (hw.ret ⟨(some ⟨b1463, 0, none⟩), k3, (c1949.take (l1956.length * 9)), rfl, (hw.outs [0] (by decide) rfl), (hw.envAt 0 rfl)⟩)
  have hsh := ite_f hsh h1656
  refine wp_skip ?_
  refine blk_normal ?_
  refine then_normal ?_
  refine wp_region_lit ?_
  refine mv hs rfl rfl fun a hs => ?_
  refine sv hs (y_add rfl rfl) rfl fun a hs => ?_
  obtain ⟨k1960, h1959, hsh⟩ := bind_t hsh
  refine sv hs (y_assignI rfl h1959) rfl fun a hs => ?_
  refine nl ?_
  exact ⟨_, (Option.some.inj hsh).symm, Sv1476, (hs.wk rfl), (hw.ft [0] [0, 1] (by decide) rfl rfl)⟩
 have hsh := ite_f hsh h1251
 obtain ⟨rv1961, hsh, h1962⟩ := map_t hsh
 have h1962 := (hd1246 _ h1962.symm).symm
 subst h1962
 refine wp_exit ?_
 refine then_exit ?_
 refine then_exit ?_
 refine blk_exit ?_
 refine then_normal ?_
 refine sr ?_
 refine mv hs rfl rfl fun a hs => ?_
 refine av hs rfl rfl fun a hs => ?_
 refine nl ?_
 have hsh := oi hsh
 subst hsh
 refine wp_ret ?_
 exact ret1 hs rfl (rv_tmp rfl) (hw.ret ⟨p2, k3, c4, rfl, (hw.outs [0] (by decide) rfl), (hw.envAt 0 rfl)⟩)

abbrev picker_Sort_rd (w0 : World) (X : List Nat) (r : (List Pick)) : (Nat → Prop) → World → Value → Prop := fun S w v => ∃ (p0_0 : Option Addr) (k0_0 : Nat) (c0_0 : List Value), v = .slice p0_0 r.length k0_0 ∧ Outs X w0 S w [.row p0_0 r.length k0_0 c0_0 46 9] ∧ (RowA c0_0 r).p S w
set_option maxHeartbeats 4000000 in
set_option maxRecDepth 100000 in
theorem picker_Sort_ok {w0 : World} {S0 : Nat → Prop} {p2 : Option Addr} {k3 : Nat} {l1 : (List Pick)} {r : (List Pick)} (hsh : picker_Sort l1 = some r) (hS : ∀ b, S0 b → b < w0.heap.size) (h4 : (SlA p2 l1.length k3 l1).p S0 w0) : Calls Try.prog 22 #[.slice p2 l1.length k3] w0 (Ret ([]) w0 S0 (picker_Sort_rd w0 ([]) r)) := by
 refine calls_of_wp Try.func22 rfl ?_
 have hs := Sl.enter #[.slice p2 l1.length k3] 10 [(0, .slice p2 l1.length k3)] rfl ⟨rfl, trivial⟩
 have hw := Wd.enter (E := []) hS (fun _ h => (by cases h))
 have hw := hw.addE h4
 delta picker_Sort at hsh
 refine sr ?_
 refine av hs rfl rfl fun a hs => ?_
 refine nl ?_
 refine sr ?_
 refine mv hs rfl rfl fun a hs => ?_
 obtain ⟨rv6, h5, hsh⟩ := bind_t hsh
 refine st_callR hs (slices_Clone_Lapi_Pick_api_Pick_ok h5 hw.dom (hw.envAt 0 rfl)) (do_call Try.call41 rfl) trivial rfl rfl ?_
 intro v14 Sv11 w a h12 h13 hs
 obtain ⟨p7, k8, c10, rfl, h15, h9⟩ := h13
 have hw := hw.callN h12 h15
 have hw := hw.addE (e := RowA c10 rv6) h9
 refine av hs rfl rfl fun a hs => ?_
 refine nl ?_
 refine sr ?_
 refine mv hs rfl rfl fun a hs => ?_
 obtain ⟨rv17, h16, hsh⟩ := bind_t hsh
 refine st_callR hs (slices_SortFunc_Lapi_Pick_api_Pick_ok h16 hw.dom (hw.ins [0] (by decide) rfl) (hw.envAt 0 rfl) (picker_Compare_fn _ _)) (do_call Try.call42 rfl) trivial rfl rfl ?_
 intro v24 Sv21 w a h22 h23 hs
 obtain ⟨c18, rfl, h25, h19, h20⟩ := h23
 have hw := hw.callO [0] [] (by decide) rfl h22 h25
 have hw := hw.addE (e := RowA c18 rv17) h19
 have h26 := h20
 have h27 := Eq.symm h26
 try have hs := hs.fl 3 rfl h27
 try have hs := hs.fl 6 rfl h27
 refine nl ?_
 refine sr ?_
 refine mv hs rfl rfl fun a hs => ?_
 obtain ⟨rv29, h28, hsh⟩ := bind_t hsh
 refine st_callR hs (slices_Compact_Lapi_Pick_api_Pick_ok h28 hw.dom (hw.ins [0] (by decide) rfl) (hw.envAt 0 rfl)) (do_call Try.call43 rfl) trivial rfl rfl ?_
 intro v37 Sv34 w a h35 h36 hs
 obtain ⟨p30, k31, c33, rfl, h38, h32⟩ := h36
 have hw := hw.callO [0] [] (by decide) rfl h35 h38
 have hw := hw.addE (e := RowA c33 rv29) h32
 refine av hs rfl rfl fun a hs => ?_
 refine nl ?_
 have hsh := oi hsh
 subst hsh
 refine wp_ret ?_
 exact ret1 hs rfl (rv_tmp rfl) (hw.ret ⟨p30, k31, c33, rfl, (hw.outs [0] (by decide) rfl), (hw.envAt 0 rfl)⟩)

abbrev picker_Run_rd (w0 : World) (X : List Nat) (r : ((List Pick) × Int)) : (Nat → Prop) → World → Value → Prop := fun S w v => ∃ (p0_0 : Option Addr) (k0_0 : Nat) (c0_0 : List Value), v = .tuple #[.slice p0_0 r.1.length k0_0, .int .i64 r.2] ∧ Outs X w0 S w [.row p0_0 r.1.length k0_0 c0_0 46 9] ∧ (RowA c0_0 r.1).p S w
set_option maxHeartbeats 4000000 in
set_option maxRecDepth 100000 in
theorem picker_Run_ok {w0 : World} {S0 : Nat → Prop} {p4 : Option Addr} {k5 : Nat} {p1 : Picking} {s2 : SourceID} {l3 : (List Segment)} {r : ((List Pick) × Int)} (hsh : picker_Run p1 s2 l3 = some r) (hS : ∀ b, S0 b → b < w0.heap.size) (h6 : (SlA p4 l3.length k5 l3).p S0 w0) : Calls Try.prog 21 #[.agg #[.int .i64 p1.Detector.Short, .int .i64 p1.Detector.Long, .int .i64 p1.Detector.On, .int .i64 p1.Detector.Off, .int .i64 p1.Back, .int .i64 p1.Level, .int .i64 p1.Floor], .agg #[.string s2.Network, .string s2.Station, .string s2.Location, .string s2.Channel], .slice p4 l3.length k5] w0 (Ret ([]) w0 S0 (picker_Run_rd w0 ([]) r)) := by
 refine calls_of_wp Try.func21 rfl ?_
 have hs := Sl.enter #[.agg #[.int .i64 p1.Detector.Short, .int .i64 p1.Detector.Long, .int .i64 p1.Detector.On, .int .i64 p1.Detector.Off, .int .i64 p1.Back, .int .i64 p1.Level, .int .i64 p1.Floor], .agg #[.string s2.Network, .string s2.Station, .string s2.Location, .string s2.Channel], .slice p4 l3.length k5] 44 [(0, .agg #[.int .i64 p1.Detector.Short, .int .i64 p1.Detector.Long, .int .i64 p1.Detector.On, .int .i64 p1.Detector.Off, .int .i64 p1.Back, .int .i64 p1.Level, .int .i64 p1.Floor]), (1, .agg #[.string s2.Network, .string s2.Station, .string s2.Location, .string s2.Channel]), (2, .slice p4 l3.length k5)] rfl ⟨rfl, rfl, rfl, trivial⟩
 have hw := Wd.enter (E := []) hS (fun _ h => (by cases h))
 have hw := hw.addE h6
 delta picker_Run at hsh
 refine sr ?_
 refine w_box (cs := [.int .i64 p1.Detector.Short, .int .i64 p1.Detector.Long, .int .i64 p1.Detector.On, .int .i64 p1.Detector.Off, .int .i64 p1.Back, .int .i64 p1.Level, .int .i64 p1.Floor]) hs hw rfl rfl rfl trivial ?_
 intro b7 a w hs hw
 refine w_box (cs := [.string s2.Network, .string s2.Station, .string s2.Location, .string s2.Channel]) hs hw rfl rfl rfl trivial ?_
 intro b8 a w hs hw
 refine av hs rfl rfl fun a hs => ?_
 refine av hs rfl rfl fun a hs => ?_
 refine nl ?_
 refine wp_seq ?_
 refine sr ?_
 refine sv hs (y_loadBA (hw.ownAt 1 rfl) rfl Try.isAgg30 Try.sizeOf30 rfl rfl) rfl fun a hs => ?_
 refine sv hs (y_loadBA (hw.ownAt 0 rfl) rfl Try.isAgg33 Try.sizeOf33 rfl rfl) rfl fun a hs => ?_
 refine mv hs rfl rfl fun a hs => ?_
 obtain ⟨rv10, h9, hsh⟩ := bind_t hsh
 refine st_callR hs (picker_valid_ok h9 hw.bdom (hw.bE 0 rfl)) (do_call Try.call28 rfl) trivial rfl rfl ?_
 intro v14 Sv11 w a h12 h13 hs
 subst h13
 have hw := hw.callB h12
 refine sv hs (y_not rfl) rfl fun a hs => ?_
 refine nl ?_
 refine wp_cond_split (hs.ev rfl) (fun h17 => ?_) (fun h17 => ?_)
 ·have hsh := ite_t hsh h17
  refine sr ?_
  refine av hs rfl rfl fun a hs => ?_
  refine av hs rfl rfl fun a hs => ?_
  refine nl ?_
  have hsh := oi hsh
  subst hsh
  have hw := hw.nilRow Pick 46
  refine wp_ret ?_
  refine then_ret ?_
  exact ret2 hs rfl (rv_tmp rfl) (rv_tmp rfl) (hw.ret ⟨none, 0, [], rfl, (hw.outs [0] (by decide) rfl), (hw.envAt 0 rfl)⟩)
 have hsh := ite_f hsh h17
 refine wp_skip ?_
 refine then_normal ?_
 refine sr ?_
 refine av hs rfl rfl fun a hs => ?_
 refine nl ?_
 refine wp_seq ?_
 refine sr ?_
 refine mv hs rfl rfl fun a hs => ?_
 refine sv hs (y_len Try.runUnderlying62 rfl) rfl fun a hs => ?_
 refine mv hs rfl rfl fun a hs => ?_
 refine nl ?_
 refine wp_block ?_
 have hw := hw.nilRow Pick 46
 refine wp_while (fun sv137 a w => ∃ (c214 : List Value) (p215 : Option Addr) (k216 : Nat) (Sv217 : Nat → Prop), Sl 44 [(3, .pointer (some ⟨b7, 0, none⟩)), (4, .pointer (some ⟨b8, 0, none⟩)), (8, .slice p215 sv137.1.length k216), (18, .slice p4 l3.length k5), (19, .int .i64 (l3.length : Int)), (20, .int .i64 sv137.2)] a ∧ Wd ⟨w0, S0, []⟩ Sv217 [.box b7 [.int .i64 p1.Detector.Short, .int .i64 p1.Detector.Long, .int .i64 p1.Detector.On, .int .i64 p1.Detector.Off, .int .i64 p1.Back, .int .i64 p1.Level, .int .i64 p1.Floor] 30, .box b8 [.string s2.Network, .string s2.Station, .string s2.Location, .string s2.Channel] 33, .row p215 sv137.1.length k216 c214 46 9] [SlA p4 l3.length k5 l3, RowA c214 sv137.1] w) (([] : List Pick), 0) hsh ⟨[], none, 0, S0, (hs.wk rfl), (hw.ft [2, 1, 0] [1, 0] (by decide) rfl rfl)⟩ ?_
 repeat clear hsh
 rintro sv137 a w tv255 ⟨c214, p215, k216, Sv217, hs, hw⟩ hsh hd254
 delta picker_Run_l2 at hsh
 refine sr ?_
 refine sv hs (y_lss rfl rfl) rfl fun a hs => ?_
 refine nl ?_
 refine wp_seq ?_
 refine wp_cond_split (hs.ev rfl) (fun h259 => ?_) (fun h259 => ?_)
 ·have hsh := ite_t hsh h259
  refine wp_skip ?_
  refine then_normal ?_
  refine wp_seq ?_
  refine wp_block ?_
  refine sr ?_
  obtain ⟨x297, h295, hsh⟩ := bind_t hsh
  obtain ⟨b303, o304, q301, c302, h305, h298, h299, h300, h296⟩ := hw.elemV 0 rfl h295
  have hsv306 := hs
  have hwv307 := hw
  subst h305
  have hs := hsv306
  have hw := hwv307
  obtain ⟨_, _, _, _, _, _, rfl, rfl, rfl, rfl, rfl, rfl, ⟨p308, n309, k310, rfl, h311⟩⟩ := h296
  obtain rfl := h311.1
  have hw := hw.addE (e := SlA p308 _ k310 x297.Samples) h311
  have hw := hw.addE h300
  refine sv hs (y_indexAt Try.runUnderlying62 Try.sizeOf38 rfl rfl h298.1 h298.2 h299) rfl fun a hs => ?_
  refine sv hs (y_loadEA (j := 0) (hw.ceAt 0 rfl) rfl Try.isAgg38 Try.sizeOf38 rfl rfl) rfl fun a hs => ?_
  refine w_alloc (cs := [.int .i64 0, .int .i64 0, .int .i64 0, .int .i64 0, .int .i64 0, .slice none ([] : List Int).length 0]) hs hw Try.zeroValue38 rfl rfl trivial ?_
  intro b312 a w hs hw
  refine w_store (m := 6) (cs' := [.int .i64 x297.Start, .int .i64 x297.First, .int .i64 x297.Rate.Num, .int .i64 x297.Rate.Den, .int .i64 x297.Error, .slice p308 x297.Samples.length k310]) hs hw 0 rfl rfl rfl Try.sizeOf38 rfl rfl rfl rfl trivial ?_
  intro a w hs hw
  refine nl ?_
  refine sr ?_
  refine sv hs (y_loadBA (hw.ownAt 1 rfl) rfl Try.isAgg30 Try.sizeOf30 rfl rfl) rfl fun a hs => ?_
  refine sv hs (y_loadBA (hw.ownAt 2 rfl) rfl Try.isAgg33 Try.sizeOf33 rfl rfl) rfl fun a hs => ?_
  refine sv hs (y_loadBA (hw.ownAt 0 rfl) rfl Try.isAgg38 Try.sizeOf38 rfl rfl) rfl fun a hs => ?_
  obtain ⟨rv314, h313, hsh⟩ := bind_t hsh
  refine st_callR hs (picker_Segment_ok h313 hw.dom (hw.envAt 1 rfl)) (do_call Try.call14 rfl) trivial rfl rfl ?_
  intro v322 Sv319 w a h320 h321 hs
  obtain ⟨p315, k316, c318, rfl, h323, h317⟩ := h321
  have hw := hw.callN h320 h323
  have hw := hw.addE (e := RowA c318 rv314.1) h317
  refine mv hs rfl rfl fun a hs => ?_
  refine sv hs (y_extract rfl rfl) rfl fun a hs => ?_
  refine sv hs (y_extract rfl rfl) rfl fun a hs => ?_
  refine av hs rfl rfl fun a hs => ?_
  refine av hs rfl rfl fun a hs => ?_
  refine nl ?_
  refine wp_seq ?_
  refine sr ?_
  refine mv hs rfl rfl fun a hs => ?_
  refine sv hs (y_neq rfl rfl) rfl fun a hs => ?_
  refine nl ?_
  refine wp_cond_split (hs.ev rfl) (fun h325 => ?_) (fun h325 => ?_)
  ·have hsh := ite_t hsh h325
   refine sr ?_
   refine mv hs rfl rfl fun a hs => ?_
   refine av hs rfl rfl fun a hs => ?_
   refine av hs rfl rfl fun a hs => ?_
   refine nl ?_
   have hsh := oi hsh
   subst hsh
   have h326 := hd254 _ rfl
   subst h326
   have hw := hw.nilRow Pick 46
   refine wp_ret ?_
   refine then_ret ?_
   refine blk_ret ?_
   refine then_ret ?_
   refine then_ret ?_
   refine blk_ret ?_
   refine then_ret ?_
   exact ret2 hs rfl (rv_tmp rfl) (rv_tmp rfl) (hw.ret ⟨none, 0, [], rfl, (hw.outs [0] (by decide) rfl), (hw.envAt 0 rfl)⟩)
  have hsh := ite_f hsh h325
  refine wp_skip ?_
  refine then_normal ?_
  refine wp_region_lit ?_
  refine mv hs rfl rfl fun a hs => ?_
  refine mv hs rfl rfl fun a hs => ?_
  obtain ⟨l328, h327, hsh⟩ := bind_t hsh
  refine w_appendR (α := Pick) hs hw El41 4 rfl rfl rfl 4 rfl 0 rfl 0 rfl h327 rfl trivial ?_
  intro p329 k330 c331 a w hs hw
  refine av hs rfl rfl fun a hs => ?_
  refine wpList_nil ?_
  refine blk_normal ?_
  refine then_normal ?_
  refine wp_region_lit ?_
  refine sv hs (y_add rfl rfl) rfl fun a hs => ?_
  refine mv hs rfl rfl fun a hs => ?_
  refine nl ?_
  exact ⟨_, (Option.some.inj hsh).symm, c331, p329, k330, Sv319, (hs.wk rfl), (hw.ft [2, 3, 4] [4, 0] (by decide) rfl rfl)⟩
 have hsh := ite_f hsh h259
 obtain ⟨rv346, hsh, h347⟩ := map_t hsh
 have h347 := (hd254 _ h347.symm).symm
 subst h347
 refine wp_exit ?_
 refine then_exit ?_
 refine then_exit ?_
 refine blk_exit ?_
 refine then_normal ?_
 refine wp_seq ?_
 refine sr ?_
 refine mv hs rfl rfl fun a hs => ?_
 obtain ⟨rv333, h332, hsh⟩ := bind_t hsh
 obtain ⟨Sv338, hw⟩ := w_share (α := Pick) hw 2 rfl 1 rfl
 refine st_callR hs (picker_Sort_ok h332 hw.dom (hw.envAt 0 rfl)) (do_call Try.call22 rfl) trivial rfl rfl ?_
 intro v342 Sv339 w a h340 h341 hs
 obtain ⟨p334, k335, c337, rfl, h343, h336⟩ := h341
 have hw := hw.callN h340 h343
 have hw := hw.addE (e := RowA c337 rv333) h336
 refine av hs rfl rfl fun a hs => ?_
 refine nl ?_
 refine sr ?_
 refine mv hs rfl rfl fun a hs => ?_
 refine sv hs (y_len Try.runUnderlying41 rfl) rfl fun a hs => ?_
 refine sv hs (y_gtr rfl rfl) rfl fun a hs => ?_
 refine nl ?_
 refine wp_cond_split (hs.ev rfl) (fun h345 => ?_) (fun h345 => ?_)
 ·have hsh := ite_t hsh h345
  refine sr ?_
  refine av hs rfl rfl fun a hs => ?_
  refine av hs rfl rfl fun a hs => ?_
  refine nl ?_
  have hsh := oi hsh
  subst hsh
  have hw := hw.nilRow Pick 46
  refine wp_ret ?_
  refine then_ret ?_
  exact ret2 hs rfl (rv_tmp rfl) (rv_tmp rfl) (hw.ret ⟨none, 0, [], rfl, (hw.outs [0] (by decide) rfl), (hw.envAt 0 rfl)⟩)
 have hsh := ite_f hsh h345
 refine wp_skip ?_
 refine then_normal ?_
 refine sr ?_
 refine mv hs rfl rfl fun a hs => ?_
 refine av hs rfl rfl fun a hs => ?_
 refine av hs rfl rfl fun a hs => ?_
 refine nl ?_
 have hsh := oi hsh
 subst hsh
 refine wp_ret ?_
 exact ret2 hs rfl (rv_tmp rfl) (rv_tmp rfl) (hw.ret ⟨p334, k335, c337, rfl, (hw.outs [0] (by decide) rfl), (hw.envAt 0 rfl)⟩)

abbrev ref23_Same_rd (w0 : World) (X : List Nat) (r : Bool) : (Nat → Prop) → World → Value → Prop := fun S w v => v = .bool r
set_option maxHeartbeats 4000000 in
set_option maxRecDepth 100000 in
theorem ref23_Same_ok {w0 : World} {S0 : Nat → Prop} {p2 : Option Addr} {k3 : Nat} {p6 : Option Addr} {k7 : Nat} {a1 : (List Pick)} {b5 : (List Pick)} {r : Bool} (hsh : ref23_Same a1 b5 = some r) (hS : ∀ b, S0 b → b < w0.heap.size) (h4 : (SlA p2 a1.length k3 a1).p S0 w0) (h8 : (SlA p6 b5.length k7 b5).p S0 w0) : Calls Try.prog 15 #[.slice p2 a1.length k3, .slice p6 b5.length k7] w0 (Ret ([]) w0 S0 (ref23_Same_rd w0 ([]) r)) := by
 refine calls_of_wp Try.func15 rfl ?_
 have hs := Sl.enter #[.slice p2 a1.length k3, .slice p6 b5.length k7] 26 [(0, .slice p2 a1.length k3), (1, .slice p6 b5.length k7)] rfl ⟨rfl, rfl, trivial⟩
 have hw := Wd.enter (E := []) hS (fun _ h => (by cases h))
 have hw := hw.addE h4
 have hw := hw.addE h8
 delta ref23_Same at hsh
 refine sr ?_
 refine av hs rfl rfl fun a hs => ?_
 refine nl ?_
 refine wp_seq ?_
 refine sr ?_
 refine mv hs rfl rfl fun a hs => ?_
 refine sv hs (y_len Try.runUnderlying41 rfl) rfl fun a hs => ?_
 refine mv hs rfl rfl fun a hs => ?_
 refine sv hs (y_len Try.runUnderlying41 rfl) rfl fun a hs => ?_
 refine sv hs (y_neq rfl rfl) rfl fun a hs => ?_
 refine nl ?_
 refine wp_cond_split (hs.ev rfl) (fun h10 => ?_) (fun h10 => ?_)
 ·have hsh := ite_t hsh h10
  refine sr ?_
  refine av hs rfl rfl fun a hs => ?_
  refine nl ?_
  have hsh := oi hsh
  subst hsh
  refine wp_ret ?_
  refine then_ret ?_
  exact ret1 hs rfl (rv_tmp rfl) (hw.ret rfl)
 have hsh := ite_f hsh h10
 refine wp_skip ?_
 refine then_normal ?_
 refine wp_seq ?_
 refine sr ?_
 refine av hs rfl rfl fun a hs => ?_
 refine nl ?_
 refine wp_block ?_
 refine wp_while (fun sv109 a w => ∃ (Sv173 : Nat → Prop), Sl 26 [(0, .slice p2 a1.length k3), (1, .slice p6 b5.length k7), (5, .int .i64 sv109)] a ∧ Wd ⟨w0, S0, []⟩ Sv173 [] [SlA p2 a1.length k3 a1, SlA p6 b5.length k7 b5] w) 0 hsh ⟨S0, (hs.wk rfl), (hw.ft [] [1, 0] (by decide) rfl rfl)⟩ ?_
 repeat clear hsh
 rintro sv109 a w tv206 ⟨Sv173, hs, hw⟩ hsh hd205
 delta ref23_Same_l2 at hsh
 refine wp_seq ?_
 refine sr ?_
 refine mv hs rfl rfl fun a hs => ?_
 refine mv hs rfl rfl fun a hs => ?_
 refine sv hs (y_len Try.runUnderlying41 rfl) rfl fun a hs => ?_
 refine sv hs (y_lss rfl rfl) rfl fun a hs => ?_
 refine nl ?_
 refine wp_cond_split (hs.ev rfl) (fun h210 => ?_) (fun h210 => ?_)
 ·have hsh := ite_t hsh h210
  refine wp_skip ?_
  refine then_normal ?_
  refine wp_seq ?_
  refine wp_block ?_
  refine wp_seq ?_
  obtain ⟨x241, h239, hsh⟩ := bind_t hsh
  obtain ⟨b247, o248, q245, c246, h249, h242, h243, h244, h240⟩ := hw.elemV 0 rfl h239
  have hsv250 := hs
  have hwv251 := hw
  subst h249
  have hs := hsv250
  have hw := hwv251
  obtain ⟨_, _, _, _, _, _, _, _, _, rfl, rfl, rfl, rfl, rfl, rfl, rfl, rfl, rfl, rfl⟩ := h240
  have hw := hw.addE h244
  obtain ⟨x254, h252, hsh⟩ := bind_t hsh
  obtain ⟨b260, o261, q258, c259, h262, h255, h256, h257, h253⟩ := hw.elemV 2 rfl h252
  have hsv263 := hs
  have hwv264 := hw
  subst h262
  have hs := hsv263
  have hw := hwv264
  obtain ⟨_, _, _, _, _, _, _, _, _, rfl, rfl, rfl, rfl, rfl, rfl, rfl, rfl, rfl, rfl⟩ := h253
  have hw := hw.addE h257
  refine wp_only (fun a w => ∃ (Sv265 : Nat → Prop), Sl 26 [(0, .slice (some ⟨b247, o248, none⟩) a1.length k3), (1, .slice (some ⟨b260, o261, none⟩) b5.length k7), (5, .int .i64 sv109), (25, .bool (!(((x241.Source.Network == x254.Source.Network) && ((x241.Source.Station == x254.Source.Station) && ((x241.Source.Location == x254.Source.Location) && ((x241.Source.Channel == x254.Source.Channel) && true)))) && ((x241.Time == x254.Time) && ((x241.Early == x254.Early) && ((x241.Late == x254.Late) && ((x241.Amplitude == x254.Amplitude) && ((x241.Polarity == x254.Polarity) && true))))))))] a ∧ Wd ⟨w0, S0, []⟩ Sv265 [] [SlA (some ⟨b247, o248, none⟩) a1.length k3 a1, SlA (some ⟨b260, o261, none⟩) b5.length k7 b5] w) ?_ ?_
  ·refine h_b (C := Cls [] [CeA b260 q258 [.string x254.Source.Network, .string x254.Source.Station, .string x254.Source.Location, .string x254.Source.Channel, .int .i64 x254.Time, .int .i64 x254.Early, .int .i64 x254.Late, .int .i64 x254.Amplitude, .int .i64 x254.Polarity], CeA b247 q245 [.string x241.Source.Network, .string x241.Source.Station, .string x241.Source.Location, .string x241.Source.Channel, .int .i64 x241.Time, .int .i64 x241.Early, .int .i64 x241.Late, .int .i64 x241.Amplitude, .int .i64 x241.Polarity]]) (by kernel_rfl) rfl (hw.drew.cs [] [0, 1] rfl rfl) fun hC => ?_
   have hw := hw.drew
   refine gm hs 0 rfl rfl rfl hC fun a hs => ?_
   refine gm hs 1 rfl rfl rfl hC fun a hs => ?_
   refine gv hs 2 rfl rfl hC (fun w hC => y_indexAt Try.runUnderlying41 Try.sizeOf46 rfl rfl h242.1 h242.2 h243) fun a hs => ?_
   refine gv hs 3 rfl rfl hC (fun w hC => y_loadEA (j := 0) (hC.ceAt 1 rfl) rfl Try.isAgg46 Try.sizeOf46 rfl rfl) fun a hs => ?_
   refine gm hs 4 rfl rfl rfl hC fun a hs => ?_
   refine gm hs 5 rfl rfl rfl hC fun a hs => ?_
   refine gv hs 6 rfl rfl hC (fun w hC => y_indexAt Try.runUnderlying41 Try.sizeOf46 rfl rfl h255.1 h255.2 h256) fun a hs => ?_
   refine gv hs 7 rfl rfl hC (fun w hC => y_loadEA (j := 0) (hC.ceAt 0 rfl) rfl Try.isAgg46 Try.sizeOf46 rfl rfl) fun a hs => ?_
   refine gv hs 8 rfl rfl hC (fun w hC => y_neqA (by kernel_rfl) rfl rfl (eqv_struct Try.runUnderlying46 (by kernel_rfl) (EqF.consA rfl Try.isAgg33 Try.sizeOf33 rfl rfl (eqv_struct Try.runUnderlying33 (by kernel_rfl) (EqF.cons1 rfl Try.isAgg9 rfl rfl (eqv_str Try.runUnderlying9) (EqF.cons1 rfl Try.isAgg9 rfl rfl (eqv_str Try.runUnderlying9) (EqF.cons1 rfl Try.isAgg9 rfl rfl (eqv_str Try.runUnderlying9) (EqF.cons1 rfl Try.isAgg9 rfl rfl (eqv_str Try.runUnderlying9) EqF.nil))))) (EqF.cons1 rfl Try.isAgg3 rfl rfl (eqv_int Try.runUnderlying3) (EqF.cons1 rfl Try.isAgg3 rfl rfl (eqv_int Try.runUnderlying3) (EqF.cons1 rfl Try.isAgg3 rfl rfl (eqv_int Try.runUnderlying3) (EqF.cons1 rfl Try.isAgg3 rfl rfl (eqv_int Try.runUnderlying3) (EqF.cons1 rfl Try.isAgg3 rfl rfl (eqv_int Try.runUnderlying3) EqF.nil)))))))) fun a hs => ?_
   refine h_done (by kernel_rfl) ?_
   exact ⟨Sv173, (hs.wk rfl), (hw.ft [] [2, 3] (by decide) rfl rfl)⟩
  rintro a w ⟨Sv265, hs, hw⟩
  refine then_normal ?_
  refine wp_cond_split (hs.ev rfl) (fun h267 => ?_) (fun h267 => ?_)
  ·have hsh := ite_t hsh h267
   refine sr ?_
   refine av hs rfl rfl fun a hs => ?_
   refine nl ?_
   have hsh := oi hsh
   subst hsh
   have h268 := hd205 _ rfl
   subst h268
   refine wp_ret ?_
   refine blk_ret ?_
   refine then_ret ?_
   refine then_ret ?_
   refine blk_ret ?_
   refine then_ret ?_
   exact ret1 hs rfl (rv_tmp rfl) (hw.ret rfl)
  have hsh := ite_f hsh h267
  refine wp_skip ?_
  refine blk_normal ?_
  refine then_normal ?_
  refine wp_region_lit ?_
  refine mv hs rfl rfl fun a hs => ?_
  refine sv hs (y_add rfl rfl) rfl fun a hs => ?_
  obtain ⟨i270, h269, hsh⟩ := bind_t hsh
  refine sv hs (y_assignI rfl h269) rfl fun a hs => ?_
  refine nl ?_
  exact ⟨_, (Option.some.inj hsh).symm, Sv265, (hs.wk rfl), (hw.ft [] [0, 1] (by decide) rfl rfl)⟩
 have hsh := ite_f hsh h210
 obtain ⟨rv271, hsh, h272⟩ := map_t hsh
 have h272 := (hd205 _ h272.symm).symm
 subst h272
 refine wp_exit ?_
 refine then_exit ?_
 refine then_exit ?_
 refine blk_exit ?_
 refine then_normal ?_
 refine sr ?_
 refine av hs rfl rfl fun a hs => ?_
 refine nl ?_
 have hsh := oi hsh
 subst hsh
 refine wp_ret ?_
 exact ret1 hs rfl (rv_tmp rfl) (hw.ret rfl)

abbrev law23_PickerExtends_rd (w0 : World) (X : List Nat) (r : Bool) : (Nat → Prop) → World → Value → Prop := fun S w v => v = .bool r
set_option maxHeartbeats 4000000 in
set_option maxRecDepth 100000 in
theorem law23_PickerExtends_ok {w0 : World} {S0 : Nat → Prop} {p2 : Option Addr} {k3 : Nat} {t1 : (List Int)} {n5 : Int} {by6 : Int} {r : Bool} (hsh : law23_PickerExtends t1 n5 by6 = some r) (hS : ∀ b, S0 b → b < w0.heap.size) (h4 : (SlA p2 t1.length k3 t1).p S0 w0) : Calls Try.prog 5 #[.slice p2 t1.length k3, .int .u8 n5, .int .u16 by6] w0 (Ret ([]) w0 S0 (law23_PickerExtends_rd w0 ([]) r)) := by
 refine calls_of_wp Try.func5 rfl ?_
 have hs := Sl.enter #[.slice p2 t1.length k3, .int .u8 n5, .int .u16 by6] 174 [(0, .slice p2 t1.length k3), (1, .int .u8 n5), (2, .int .u16 by6)] rfl ⟨rfl, rfl, rfl, trivial⟩
 have hw := Wd.enter (E := []) hS (fun _ h => (by cases h))
 have hw := hw.addE h4
 delta law23_PickerExtends at hsh
 refine sr ?_
 refine av hs rfl rfl fun a hs => ?_
 refine nl ?_
 refine wp_seq ?_
 refine sr ?_
 refine mv hs rfl rfl fun a hs => ?_
 obtain ⟨rv8, h7, hsh⟩ := bind_t hsh
 refine st_callR hs (made_Light_ok h7 hw.bdom (hw.bE 0 rfl)) (do_call Try.call7 rfl) trivial rfl rfl ?_
 intro v12 Sv9 w a h10 h11 hs
 subst h11
 have hw := hw.callB h10
 refine sv hs (y_not rfl) rfl fun a hs => ?_
 refine nl ?_
 refine wp_cond_split (hs.ev rfl) (fun h22 => ?_) (fun h22 => ?_)
 ·have hsh := ite_t hsh h22
  refine sr ?_
  obtain ⟨rv24, h23, hsh⟩ := bind_t hsh
  refine st_callR hs (law23_sane_ok h23 hw.bdom) (do_call Try.call8 rfl) trivial rfl rfl ?_
  intro v28 Sv25 w a h26 h27 hs
  subst h27
  have hw := hw.callB h26
  refine av hs rfl rfl fun a hs => ?_
  refine nl ?_
  have hsh := oi hsh
  subst hsh
  refine wp_ret ?_
  refine then_ret ?_
  exact ret1 hs rfl (rv_tmp rfl) (hw.ret rfl)
 have hsh := ite_f hsh h22
 refine wp_skip ?_
 refine then_normal ?_
 refine sr ?_
 refine mv hs rfl rfl fun a hs => ?_
 obtain ⟨rv31, h30, hsh⟩ := bind_t hsh
 refine st_callR hs (made_Roll_ok h30 hw.dom (hw.envAt 0 rfl)) (do_call Try.call9 rfl) trivial rfl rfl ?_
 intro v39 Sv36 w a h37 h38 hs
 obtain ⟨b32, p33, k34, rfl, h40, h35⟩ := h38
 have hw := hw.callN h37 h40
 have hw := hw.addE (e := SlA p33 rv31.L.length k34 rv31.L) h35
 refine av hs rfl rfl fun a hs => ?_
 refine nl ?_
 refine sr ?_
 refine mv hs rfl rfl fun a hs => ?_
 obtain ⟨rv42, h41, hsh⟩ := bind_t hsh
 refine st_callR hs (made_Dice_Picking_ok h41 hw.dom (hw.ins [0] (by decide) rfl) (hw.envAt 0 rfl)) (do_call Try.call10 rfl) trivial rfl rfl ?_
 intro v49 Sv46 w a h47 h48 hs
 obtain ⟨p43, k44, rfl, h50, h45⟩ := h48
 have hw := hw.callO [0] [] (by decide) rfl h47 h50
 have hw := hw.addE (e := SlA p43 rv42.2.L.length k44 rv42.2.L) h45
 refine mv hs rfl rfl fun a hs => ?_
 obtain ⟨rv52, h51, hsh⟩ := bind_t hsh
 refine st_callR hs (made_Dice_Source_ok h51 hw.dom (hw.ins [0] (by decide) rfl) (hw.envAt 0 rfl)) (do_call Try.call11 rfl) trivial rfl rfl ?_
 intro v59 Sv56 w a h57 h58 hs
 obtain ⟨p53, k54, rfl, h60, h55⟩ := h58
 have hw := hw.callO [0] [] (by decide) rfl h57 h60
 have hw := hw.addE (e := SlA p53 rv52.2.L.length k54 rv52.2.L) h55
 refine mv hs rfl rfl fun a hs => ?_
 obtain ⟨rv62, h61, hsh⟩ := bind_t hsh
 refine st_callR hs (made_Dice_Segment_ok h61 hw.dom (hw.ins [0] (by decide) rfl) (hw.envAt 0 rfl)) (do_call Try.call12 rfl) trivial rfl rfl ?_
 intro v73 Sv70 w a h71 h72 hs
 obtain ⟨p63, k64, c66, p67, k68, rfl, h74, h65, h69⟩ := h72
 have hw := hw.callO [0] [] (by decide) rfl h71 h74
 have hw := hw.addE (e := RowA c66 rv62.1.Samples) h65
 have hw := hw.addE (e := SlA p67 rv62.2.L.length k68 rv62.2.L) h69
 refine w_alloc (cs := [.int .i64 0, .int .i64 0, .int .i64 0, .int .i64 0, .int .i64 0, .int .i64 0, .int .i64 0]) hs hw Try.zeroValue30 rfl rfl trivial ?_
 intro b75 a w hs hw
 refine w_alloc (cs := [.string ByteArray.empty, .string ByteArray.empty, .string ByteArray.empty, .string ByteArray.empty]) hs hw Try.zeroValue33 rfl rfl trivial ?_
 intro b76 a w hs hw
 refine w_alloc (cs := [.int .i64 0, .int .i64 0, .int .i64 0, .int .i64 0, .int .i64 0, .slice none ([] : List Int).length 0]) hs hw Try.zeroValue38 rfl rfl trivial ?_
 intro b77 a w hs hw
 refine w_store (m := 7) (cs' := [.int .i64 rv42.1.Detector.Short, .int .i64 rv42.1.Detector.Long, .int .i64 rv42.1.Detector.On, .int .i64 rv42.1.Detector.Off, .int .i64 rv42.1.Back, .int .i64 rv42.1.Level, .int .i64 rv42.1.Floor]) hs hw 2 rfl rfl rfl Try.sizeOf30 rfl rfl rfl rfl trivial ?_
 intro a w hs hw
 refine w_store (m := 4) (cs' := [.string rv52.1.Network, .string rv52.1.Station, .string rv52.1.Location, .string rv52.1.Channel]) hs hw 1 rfl rfl rfl Try.sizeOf33 rfl rfl rfl rfl trivial ?_
 intro a w hs hw
 refine w_store (m := 6) (cs' := [.int .i64 rv62.1.Start, .int .i64 rv62.1.First, .int .i64 rv62.1.Rate.Num, .int .i64 rv62.1.Rate.Den, .int .i64 rv62.1.Error, .slice p63 rv62.1.Samples.length k64]) hs hw 0 rfl rfl rfl Try.sizeOf38 rfl rfl rfl rfl trivial ?_
 intro a w hs hw
 refine nl ?_
 refine sr ?_
 refine mv hs rfl rfl fun a hs => ?_
 refine sv hs (y_convert Try.runUnderlying5 Try.runUnderlying3 rfl) rfl fun a hs => ?_
 refine sv hs (y_fieldAddr (o' := 5) Try.runUnderlying38 rfl Try.sizeOf22 rfl rfl rfl) rfl fun a hs => ?_
 refine sv hs (y_loadB1 (hw.ownAt 0 rfl) rfl Try.isAgg22 rfl) rfl fun a hs => ?_
 refine sv hs (y_len Try.runUnderlying22 rfl) rfl fun a hs => ?_
 obtain ⟨rem79, h78, hsh⟩ := bind_t hsh
 refine sv hs (y_remM rfl rfl h78) rfl fun a hs => ?_
 refine sv hs (y_add rfl rfl) rfl fun a hs => ?_
 obtain ⟨k81, h80, hsh⟩ := bind_t hsh
 refine sv hs (y_assignI rfl h80) rfl fun a hs => ?_
 refine nl ?_
 refine wp_seq ?_
 refine wp_only (fun a w => ∃ (Sv84 : Nat → Prop) (b82 : Nat) (b83 : Nat), Sl 174 [(2, .int .u16 by6), (8, .pointer (some ⟨b75, 0, none⟩)), (9, .pointer (some ⟨b76, 0, none⟩)), (10, .pointer (some ⟨b77, 0, none⟩)), (11, .int .i64 k81), (12, .pointer (some ⟨b82, 0, none⟩)), (13, .pointer (some ⟨b83, 0, none⟩))] a ∧ Wd ⟨w0, S0, []⟩ Sv84 [.box b75 [.int .i64 rv42.1.Detector.Short, .int .i64 rv42.1.Detector.Long, .int .i64 rv42.1.Detector.On, .int .i64 rv42.1.Detector.Off, .int .i64 rv42.1.Back, .int .i64 rv42.1.Level, .int .i64 rv42.1.Floor] 30, .box b76 [.string rv52.1.Network, .string rv52.1.Station, .string rv52.1.Location, .string rv52.1.Channel] 33, .box b77 [.int .i64 rv62.1.Start, .int .i64 rv62.1.First, .int .i64 rv62.1.Rate.Num, .int .i64 rv62.1.Rate.Den, .int .i64 rv62.1.Error, .slice p63 rv62.1.Samples.length k64] 38, .box b82 [.int .i64 rv62.1.Start, .int .i64 rv62.1.First, .int .i64 rv62.1.Rate.Num, .int .i64 rv62.1.Rate.Den, .int .i64 rv62.1.Error, .slice p63 rv62.1.Samples.length k64] 38, .box b83 [.int .i64 rv62.1.Start, .int .i64 rv62.1.First, .int .i64 rv62.1.Rate.Num, .int .i64 rv62.1.Rate.Den, .int .i64 rv62.1.Error, .slice p63 rv62.1.Samples.length k64] 38, .row p63 rv62.1.Samples.length k64 c66 3 1] [RowA c66 rv62.1.Samples] w) ?_ ?_
 ·refine h_b (C := Cls [.box b77 [.int .i64 rv62.1.Start, .int .i64 rv62.1.First, .int .i64 rv62.1.Rate.Num, .int .i64 rv62.1.Rate.Den, .int .i64 rv62.1.Error, .slice p63 rv62.1.Samples.length k64] 38, .box b76 [.string rv52.1.Network, .string rv52.1.Station, .string rv52.1.Location, .string rv52.1.Channel] 33, .box b75 [.int .i64 rv42.1.Detector.Short, .int .i64 rv42.1.Detector.Long, .int .i64 rv42.1.Detector.On, .int .i64 rv42.1.Detector.Off, .int .i64 rv42.1.Back, .int .i64 rv42.1.Level, .int .i64 rv42.1.Floor] 30, .row p63 rv62.1.Samples.length k64 c66 3 1, .box b32 [.slice p67 rv62.2.L.length k68, .int .i64 rv62.2.At] 69] []) (by kernel_rfl) rfl (hw.drew.cs [0, 1, 2, 3, 4] [] rfl rfl) fun hC => ?_
  have hw := hw.drew
  refine gv hs 0 rfl rfl hC (fun w hC => y_loadBA (hC.ownAt 0 rfl) rfl Try.isAgg38 Try.sizeOf38 rfl rfl) fun a hs => ?_
  refine gv hs 1 rfl rfl hC (fun w hC => y_loadBA (hC.ownAt 0 rfl) rfl Try.isAgg38 Try.sizeOf38 rfl rfl) fun a hs => ?_
  refine h_all (rs := [2, 3]) (by kernel_rfl) rfl ?_
  refine AllH.cons rfl ?_ ?_
  ·refine w_alloc (cs := [.int .i64 0, .int .i64 0, .int .i64 0, .int .i64 0, .int .i64 0, .slice none ([] : List Int).length 0]) hs hw Try.zeroValue38 rfl rfl trivial ?_
   intro b82 a w hs hw
   refine h_nx (hw.cs [1, 2, 3, 4, 5] [] rfl rfl) fun hC => ?_
   refine ho 3 rfl ?_
   refine w_alloc (cs := [.int .i64 0, .int .i64 0, .int .i64 0, .int .i64 0, .int .i64 0, .slice none ([] : List Int).length 0]) hs hw Try.zeroValue38 rfl rfl trivial ?_
   intro b83 a w hs hw
   refine h_nx (hw.cs [2, 3, 4, 5, 6] [] rfl rfl) fun hC => ?_
   refine ho 4 rfl ?_
   refine w_store (m := 6) (cs' := [.int .i64 rv62.1.Start, .int .i64 rv62.1.First, .int .i64 rv62.1.Rate.Num, .int .i64 rv62.1.Rate.Den, .int .i64 rv62.1.Error, .slice p63 rv62.1.Samples.length k64]) hs hw 1 rfl rfl rfl Try.sizeOf38 rfl rfl rfl rfl trivial ?_
   intro a w hs hw
   refine h_nx (hw.cs [2, 3, 4, 5, 6] [] rfl rfl) fun hC => ?_
   refine ho 5 rfl ?_
   refine w_store (m := 6) (cs' := [.int .i64 rv62.1.Start, .int .i64 rv62.1.First, .int .i64 rv62.1.Rate.Num, .int .i64 rv62.1.Rate.Den, .int .i64 rv62.1.Error, .slice p63 rv62.1.Samples.length k64]) hs hw 0 rfl rfl rfl Try.sizeOf38 rfl rfl rfl rfl trivial ?_
   intro a w hs hw
   refine h_nx (hw.cs [2, 3, 4, 5, 6] [] rfl rfl) fun hC => ?_
   refine h_done (by kernel_rfl) ?_
   exact ⟨Sv70, b82, b83, (hs.wk rfl), (hw.ft [4, 3, 2, 1, 0, 5] [1] (by decide) rfl rfl)⟩
  refine AllH.cons rfl ?_ ?_
  ·refine w_alloc (cs := [.int .i64 0, .int .i64 0, .int .i64 0, .int .i64 0, .int .i64 0, .slice none ([] : List Int).length 0]) hs hw Try.zeroValue38 rfl rfl trivial ?_
   intro b83 a w hs hw
   refine h_nx (hw.cs [1, 2, 3, 4, 5] [] rfl rfl) fun hC => ?_
   refine ho 2 rfl ?_
   refine w_alloc (cs := [.int .i64 0, .int .i64 0, .int .i64 0, .int .i64 0, .int .i64 0, .slice none ([] : List Int).length 0]) hs hw Try.zeroValue38 rfl rfl trivial ?_
   intro b82 a w hs hw
   refine h_nx (hw.cs [2, 3, 4, 5, 6] [] rfl rfl) fun hC => ?_
   refine ho 4 rfl ?_
   refine w_store (m := 6) (cs' := [.int .i64 rv62.1.Start, .int .i64 rv62.1.First, .int .i64 rv62.1.Rate.Num, .int .i64 rv62.1.Rate.Den, .int .i64 rv62.1.Error, .slice p63 rv62.1.Samples.length k64]) hs hw 0 rfl rfl rfl Try.sizeOf38 rfl rfl rfl rfl trivial ?_
   intro a w hs hw
   refine h_nx (hw.cs [2, 3, 4, 5, 6] [] rfl rfl) fun hC => ?_
   refine ho 5 rfl ?_
   refine w_store (m := 6) (cs' := [.int .i64 rv62.1.Start, .int .i64 rv62.1.First, .int .i64 rv62.1.Rate.Num, .int .i64 rv62.1.Rate.Den, .int .i64 rv62.1.Error, .slice p63 rv62.1.Samples.length k64]) hs hw 1 rfl rfl rfl Try.sizeOf38 rfl rfl rfl rfl trivial ?_
   intro a w hs hw
   refine h_nx (hw.cs [2, 3, 4, 5, 6] [] rfl rfl) fun hC => ?_
   refine h_done (by kernel_rfl) ?_
   exact ⟨Sv70, b82, b83, (hs.wk rfl), (hw.ft [4, 3, 2, 0, 1, 5] [1] (by decide) rfl rfl)⟩
  exact AllH.nil
 rintro a w ⟨Sv84, b82, b83, hs, hw⟩
 refine then_normal ?_
 refine sr ?_
 refine sv hs (y_fieldAddr (o' := 5) Try.runUnderlying38 rfl Try.sizeOf22 rfl rfl rfl) rfl fun a hs => ?_
 refine sv hs (y_loadB1 (hw.ownAt 2 rfl) rfl Try.isAgg22 rfl) rfl fun a hs => ?_
 refine mv hs rfl rfl fun a hs => ?_
 obtain ⟨Sv85, hw⟩ := w_share (α := Int) hw 5 rfl 0 rfl
 obtain ⟨l91, h86, hsh⟩ := bind_t hsh
 obtain ⟨p89, k90, h87, h88⟩ := sub_env (hw.envAt 0 rfl) h86
 have hw := hw.addE h87
 refine sv hs (y_slc Try.runUnderlying22 Try.sizeOf3 rfl (by exact rfl) ⟨_, rfl⟩ h88) rfl fun a hs => ?_
 refine sv hs (y_fieldAddr (o' := 5) Try.runUnderlying38 rfl Try.sizeOf22 rfl rfl rfl) rfl fun a hs => ?_
 refine w_store (m := 1) (cs' := [.int .i64 rv62.1.Start, .int .i64 rv62.1.First, .int .i64 rv62.1.Rate.Num, .int .i64 rv62.1.Rate.Den, .int .i64 rv62.1.Error, .slice p89 l91.length k90]) hs hw 3 rfl rfl rfl Try.sizeOf22 rfl rfl rfl rfl trivial ?_
 intro a w hs hw
 refine nl ?_
 refine sr ?_
 refine sv hs (y_fieldAddr (o' := 0) Try.runUnderlying38 rfl Try.sizeOf3 rfl rfl rfl) rfl fun a hs => ?_
 refine sv hs (y_loadB1 (hw.ownAt 4 rfl) rfl Try.isAgg3 rfl) rfl fun a hs => ?_
 refine mv hs rfl rfl fun a hs => ?_
 refine sv hs (y_convert Try.runUnderlying60 Try.runUnderlying3 rfl) rfl fun a hs => ?_
 refine sv hs (y_add rfl rfl) rfl fun a hs => ?_
 refine sv hs (y_fieldAddr (o' := 0) Try.runUnderlying38 rfl Try.sizeOf3 rfl rfl rfl) rfl fun a hs => ?_
 refine w_store (m := 1) (cs' := [.int .i64 (w64 (rv62.1.Start + (w64 by6))), .int .i64 rv62.1.First, .int .i64 rv62.1.Rate.Num, .int .i64 rv62.1.Rate.Den, .int .i64 rv62.1.Error, .slice p63 rv62.1.Samples.length k64]) hs hw 4 rfl rfl rfl Try.sizeOf3 rfl rfl rfl rfl trivial ?_
 intro a w hs hw
 refine nl ?_
 refine sr ?_
 refine sv hs (y_loadBA (hw.ownAt 0 rfl) rfl Try.isAgg30 Try.sizeOf30 rfl rfl) rfl fun a hs => ?_
 refine sv hs (y_loadBA (hw.ownAt 1 rfl) rfl Try.isAgg33 Try.sizeOf33 rfl rfl) rfl fun a hs => ?_
 refine sv hs (y_loadBA (hw.ownAt 3 rfl) rfl Try.isAgg38 Try.sizeOf38 rfl rfl) rfl fun a hs => ?_
 obtain ⟨rv93, h92, hsh⟩ := bind_t hsh
 refine st_callR hs (picker_Segment_ok h92 hw.dom (hw.envAt 0 rfl)) (do_call Try.call14 rfl) trivial rfl rfl ?_
 intro v101 Sv98 w a h99 h100 hs
 obtain ⟨p94, k95, c97, rfl, h102, h96⟩ := h100
 have hw := hw.callN h99 h102
 have hw := hw.addE (e := RowA c97 rv93.1) h96
 refine mv hs rfl rfl fun a hs => ?_
 refine sv hs (y_extract rfl rfl) rfl fun a hs => ?_
 refine sv hs (y_extract rfl rfl) rfl fun a hs => ?_
 refine av hs rfl rfl fun a hs => ?_
 refine av hs rfl rfl fun a hs => ?_
 refine nl ?_
 refine sr ?_
 refine sv hs (y_loadBA (hw.ownAt 1 rfl) rfl Try.isAgg30 Try.sizeOf30 rfl rfl) rfl fun a hs => ?_
 refine sv hs (y_loadBA (hw.ownAt 2 rfl) rfl Try.isAgg33 Try.sizeOf33 rfl rfl) rfl fun a hs => ?_
 refine sv hs (y_loadBA (hw.ownAt 3 rfl) rfl Try.isAgg38 Try.sizeOf38 rfl rfl) rfl fun a hs => ?_
 obtain ⟨rv104, h103, hsh⟩ := bind_t hsh
 refine st_callR hs (picker_Segment_ok h103 hw.dom (hw.envAt 2 rfl)) (do_call Try.call14 rfl) trivial rfl rfl ?_
 intro v112 Sv109 w a h110 h111 hs
 obtain ⟨p105, k106, c108, rfl, h113, h107⟩ := h111
 have hw := hw.callN h110 h113
 have hw := hw.addE (e := RowA c108 rv104.1) h107
 refine mv hs rfl rfl fun a hs => ?_
 refine sv hs (y_extract rfl rfl) rfl fun a hs => ?_
 refine sv hs (y_extract rfl rfl) rfl fun a hs => ?_
 refine av hs rfl rfl fun a hs => ?_
 refine av hs rfl rfl fun a hs => ?_
 refine nl ?_
 refine sr ?_
 refine sv hs (y_loadBA (hw.ownAt 2 rfl) rfl Try.isAgg30 Try.sizeOf30 rfl rfl) rfl fun a hs => ?_
 refine sv hs (y_loadBA (hw.ownAt 3 rfl) rfl Try.isAgg33 Try.sizeOf33 rfl rfl) rfl fun a hs => ?_
 refine sv hs (y_loadBA (hw.ownAt 6 rfl) rfl Try.isAgg38 Try.sizeOf38 rfl rfl) rfl fun a hs => ?_
 obtain ⟨rv115, h114, hsh⟩ := bind_t hsh
 refine st_callR hs (picker_Segment_ok h114 hw.dom (hw.envAt 3 rfl)) (do_call Try.call14 rfl) trivial rfl rfl ?_
 intro v123 Sv120 w a h121 h122 hs
 obtain ⟨p116, k117, c119, rfl, h124, h118⟩ := h122
 have hw := hw.callN h121 h124
 have hw := hw.addE (e := RowA c119 rv115.1) h118
 refine mv hs rfl rfl fun a hs => ?_
 refine sv hs (y_extract rfl rfl) rfl fun a hs => ?_
 refine sv hs (y_extract rfl rfl) rfl fun a hs => ?_
 refine av hs rfl rfl fun a hs => ?_
 refine av hs rfl rfl fun a hs => ?_
 refine nl ?_
 refine sr ?_
 refine sv hs (y_loadBA (hw.ownAt 3 rfl) rfl Try.isAgg30 Try.sizeOf30 rfl rfl) rfl fun a hs => ?_
 refine sv hs (y_loadBA (hw.ownAt 4 rfl) rfl Try.isAgg33 Try.sizeOf33 rfl rfl) rfl fun a hs => ?_
 refine sv hs (y_loadBA (hw.ownAt 7 rfl) rfl Try.isAgg38 Try.sizeOf38 rfl rfl) rfl fun a hs => ?_
 refine sv hs (y_loadBA (hw.ownAt 6 rfl) rfl Try.isAgg38 Try.sizeOf38 rfl rfl) rfl fun a hs => ?_
 refine w_litSlice (α := Segment) (vs := [.agg #[.int .i64 (w64 (rv62.1.Start + (w64 by6))), .int .i64 rv62.1.First, .int .i64 rv62.1.Rate.Num, .int .i64 rv62.1.Rate.Den, .int .i64 rv62.1.Error, .slice p63 rv62.1.Samples.length k64], .agg #[.int .i64 rv62.1.Start, .int .i64 rv62.1.First, .int .i64 rv62.1.Rate.Num, .int .i64 rv62.1.Rate.Den, .int .i64 rv62.1.Error, .slice p89 l91.length k90]]) (cs := [.int .i64 (w64 (rv62.1.Start + (w64 by6))), .int .i64 rv62.1.First, .int .i64 rv62.1.Rate.Num, .int .i64 rv62.1.Rate.Den, .int .i64 rv62.1.Error, .slice p63 rv62.1.Samples.length k64, .int .i64 rv62.1.Start, .int .i64 rv62.1.First, .int .i64 rv62.1.Rate.Num, .int .i64 rv62.1.Rate.Den, .int .i64 rv62.1.Error, .slice p89 l91.length k90]) (xs := ([(⟨(w64 (rv62.1.Start + (w64 by6))), rv62.1.First, rv62.1.Rate, rv62.1.Error, rv62.1.Samples⟩ : Segment), (⟨rv62.1.Start, rv62.1.First, rv62.1.Rate, rv62.1.Error, l91⟩ : Segment)] : List Segment)) hs hw El62 rfl rfl rfl rfl rfl rfl ⟨⟨_, _, _, _, _, _, rfl, rfl, rfl, rfl, rfl, rfl, ⟨_, _, _, rfl, hw.envAt 4 rfl⟩⟩, ⟨⟨_, _, _, _, _, _, rfl, rfl, rfl, rfl, rfl, rfl, ⟨_, _, _, rfl, hw.envAt 3 rfl⟩⟩, rfl⟩⟩ rfl trivial rfl fun b126 a w hs hw => ?_
 obtain ⟨rv128, h127, hsh⟩ := bind_t hsh
 obtain ⟨Sv133, hw⟩ := w_share (α := Segment) hw 0 rfl 0 rfl
 refine st_callR hs (picker_Run_ok h127 hw.dom (hw.envAt 0 rfl)) (do_call Try.call21 rfl) trivial rfl rfl ?_
 intro v137 Sv134 w a h135 h136 hs
 obtain ⟨p129, k130, c132, rfl, h138, h131⟩ := h136
 have hw := hw.callN h135 h138
 have hw := hw.addE (e := RowA c132 rv128.1) h131
 refine mv hs rfl rfl fun a hs => ?_
 refine sv hs (y_extract rfl rfl) rfl fun a hs => ?_
 refine sv hs (y_extract rfl rfl) rfl fun a hs => ?_
 refine av hs rfl rfl fun a hs => ?_
 refine av hs rfl rfl fun a hs => ?_
 refine nl ?_
 refine wp_seq ?_
 refine sr ?_
 refine mv hs rfl rfl fun a hs => ?_
 refine sv hs (y_neq rfl rfl) rfl fun a hs => ?_
 refine mv hs rfl rfl fun a hs => ?_
 refine wpl_join 3 (fun a w1 => w = w1 ∧ Sl 174 [(2, .int .u16 by6), (14, .slice p94 rv93.1.length k95), (16, .slice p105 rv104.1.length k106), (18, .slice p116 rv115.1.length k117), (19, .int .i64 rv115.2), (20, .slice p129 rv128.1.length k130), (21, .int .i64 rv128.2), (91, .bool ((rv93.2 != 0) || (rv104.2 != 0)))] a) ?_ ?_
 ·rcases Bool.eq_false_or_eq_true (rv93.2 != 0) with h139 | h139
  ·have hs := hs.fix 88 (.bool true) rfl (vb h139)
   refine st_skip hs rfl rfl rfl rfl rfl fun a hs => ?_
   refine st_skip hs rfl rfl rfl rfl rfl fun a hs => ?_
   refine sv hs (y_pickT rfl rfl) rfl fun a hs => ?_
   refine nl ?_
   exact ⟨rfl, (hs.fix 91 (.bool ((rv93.2 != 0) || (rv104.2 != 0))) rfl (or_t h139)).weaken _ ⟨rfl, rfl, rfl, rfl, rfl, rfl, rfl, rfl, trivial⟩⟩
  have hs := hs.fix 88 (.bool false) rfl (vb h139)
  refine st_val hs (y_move rfl) ⟨_, rfl, rfl⟩ rfl rfl fun a hs => ?_
  refine st_val hs (y_neq rfl rfl) ⟨_, rfl, rfl⟩ rfl rfl fun a hs => ?_
  refine sv hs (y_pickF rfl rfl) rfl fun a hs => ?_
  refine nl ?_
  exact ⟨rfl, (hs.fix 91 (.bool ((rv93.2 != 0) || (rv104.2 != 0))) rfl (or_f h139)).weaken _ ⟨rfl, rfl, rfl, rfl, rfl, rfl, rfl, rfl, trivial⟩⟩
 rintro a w1 ⟨h737, hs⟩
 subst h737
 refine mv hs rfl rfl fun a hs => ?_
 refine wpl_join 3 (fun a w1 => w = w1 ∧ Sl 174 [(2, .int .u16 by6), (14, .slice p94 rv93.1.length k95), (16, .slice p105 rv104.1.length k106), (18, .slice p116 rv115.1.length k117), (20, .slice p129 rv128.1.length k130), (21, .int .i64 rv128.2), (95, .bool (((rv93.2 != 0) || (rv104.2 != 0)) || (rv115.2 != 0)))] a) ?_ ?_
 ·rcases Bool.eq_false_or_eq_true ((rv93.2 != 0) || (rv104.2 != 0)) with h140 | h140
  ·have hs := hs.fix 92 (.bool true) rfl (vb h140)
   refine st_skip hs rfl rfl rfl rfl rfl fun a hs => ?_
   refine st_skip hs rfl rfl rfl rfl rfl fun a hs => ?_
   refine sv hs (y_pickT rfl rfl) rfl fun a hs => ?_
   refine nl ?_
   exact ⟨rfl, (hs.fix 95 (.bool (((rv93.2 != 0) || (rv104.2 != 0)) || (rv115.2 != 0))) rfl (or_t h140)).weaken _ ⟨rfl, rfl, rfl, rfl, rfl, rfl, rfl, trivial⟩⟩
  have hs := hs.fix 92 (.bool false) rfl (vb h140)
  refine st_val hs (y_move rfl) ⟨_, rfl, rfl⟩ rfl rfl fun a hs => ?_
  refine st_val hs (y_neq rfl rfl) ⟨_, rfl, rfl⟩ rfl rfl fun a hs => ?_
  refine sv hs (y_pickF rfl rfl) rfl fun a hs => ?_
  refine nl ?_
  exact ⟨rfl, (hs.fix 95 (.bool (((rv93.2 != 0) || (rv104.2 != 0)) || (rv115.2 != 0))) rfl (or_f h140)).weaken _ ⟨rfl, rfl, rfl, rfl, rfl, rfl, rfl, trivial⟩⟩
 rintro a w1 ⟨h736, hs⟩
 subst h736
 refine mv hs rfl rfl fun a hs => ?_
 refine wpl_join 3 (fun a w1 => w = w1 ∧ Sl 174 [(2, .int .u16 by6), (14, .slice p94 rv93.1.length k95), (16, .slice p105 rv104.1.length k106), (18, .slice p116 rv115.1.length k117), (20, .slice p129 rv128.1.length k130), (99, .bool ((((rv93.2 != 0) || (rv104.2 != 0)) || (rv115.2 != 0)) || (rv128.2 != 0)))] a) ?_ ?_
 ·rcases Bool.eq_false_or_eq_true (((rv93.2 != 0) || (rv104.2 != 0)) || (rv115.2 != 0)) with h141 | h141
  ·have hs := hs.fix 96 (.bool true) rfl (vb h141)
   refine st_skip hs rfl rfl rfl rfl rfl fun a hs => ?_
   refine st_skip hs rfl rfl rfl rfl rfl fun a hs => ?_
   refine sv hs (y_pickT rfl rfl) rfl fun a hs => ?_
   refine nl ?_
   exact ⟨rfl, (hs.fix 99 (.bool ((((rv93.2 != 0) || (rv104.2 != 0)) || (rv115.2 != 0)) || (rv128.2 != 0))) rfl (or_t h141)).weaken _ ⟨rfl, rfl, rfl, rfl, rfl, rfl, trivial⟩⟩
  have hs := hs.fix 96 (.bool false) rfl (vb h141)
  refine st_val hs (y_move rfl) ⟨_, rfl, rfl⟩ rfl rfl fun a hs => ?_
  refine st_val hs (y_neq rfl rfl) ⟨_, rfl, rfl⟩ rfl rfl fun a hs => ?_
  refine sv hs (y_pickF rfl rfl) rfl fun a hs => ?_
  refine nl ?_
  exact ⟨rfl, (hs.fix 99 (.bool ((((rv93.2 != 0) || (rv104.2 != 0)) || (rv115.2 != 0)) || (rv128.2 != 0))) rfl (or_f h141)).weaken _ ⟨rfl, rfl, rfl, rfl, rfl, rfl, trivial⟩⟩
 rintro a w1 ⟨h735, hs⟩
 subst h735
 refine mv hs rfl rfl fun a hs => ?_
 refine wpl_join 6 (fun a w1 => w = w1 ∧ Sl 174 [(2, .int .u16 by6), (14, .slice p94 rv93.1.length k95), (16, .slice p105 rv104.1.length k106), (18, .slice p116 rv115.1.length k117), (20, .slice p129 rv128.1.length k130), (106, .bool (((((rv93.2 != 0) || (rv104.2 != 0)) || (rv115.2 != 0)) || (rv128.2 != 0)) || (decide ((rv104.1.length : Int) < (rv93.1.length : Int)))))] a) ?_ ?_
 ·rcases Bool.eq_false_or_eq_true ((((rv93.2 != 0) || (rv104.2 != 0)) || (rv115.2 != 0)) || (rv128.2 != 0)) with h142 | h142
  ·have hs := hs.fix 100 (.bool true) rfl (vb h142)
   refine st_skip hs rfl rfl rfl rfl rfl fun a hs => ?_
   refine st_skip hs rfl rfl rfl rfl rfl fun a hs => ?_
   refine st_skip hs rfl rfl rfl rfl rfl fun a hs => ?_
   refine st_skip hs rfl rfl rfl rfl rfl fun a hs => ?_
   refine st_skip hs rfl rfl rfl rfl rfl fun a hs => ?_
   refine sv hs (y_pickT rfl rfl) rfl fun a hs => ?_
   refine nl ?_
   exact ⟨rfl, (hs.fix 106 (.bool (((((rv93.2 != 0) || (rv104.2 != 0)) || (rv115.2 != 0)) || (rv128.2 != 0)) || (decide ((rv104.1.length : Int) < (rv93.1.length : Int))))) rfl (or_t h142)).weaken _ ⟨rfl, rfl, rfl, rfl, rfl, rfl, trivial⟩⟩
  have hs := hs.fix 100 (.bool false) rfl (vb h142)
  refine st_val hs (y_move rfl) ⟨_, rfl, rfl⟩ rfl rfl fun a hs => ?_
  refine st_val hs (y_len Try.runUnderlying41 rfl) ⟨_, rfl, rfl⟩ rfl rfl fun a hs => ?_
  refine st_val hs (y_move rfl) ⟨_, rfl, rfl⟩ rfl rfl fun a hs => ?_
  refine st_val hs (y_len Try.runUnderlying41 rfl) ⟨_, rfl, rfl⟩ rfl rfl fun a hs => ?_
  refine st_val hs (y_gtr rfl rfl) ⟨_, rfl, rfl⟩ rfl rfl fun a hs => ?_
  refine sv hs (y_pickF rfl rfl) rfl fun a hs => ?_
  refine nl ?_
  exact ⟨rfl, (hs.fix 106 (.bool (((((rv93.2 != 0) || (rv104.2 != 0)) || (rv115.2 != 0)) || (rv128.2 != 0)) || (decide ((rv104.1.length : Int) < (rv93.1.length : Int))))) rfl (or_f h142)).weaken _ ⟨rfl, rfl, rfl, rfl, rfl, rfl, trivial⟩⟩
 rintro a w1 ⟨h734, hs⟩
 subst h734
 refine mv hs rfl rfl fun a hs => ?_
 refine wpl_join 6 (fun a w1 => w = w1 ∧ Sl 174 [(2, .int .u16 by6), (14, .slice p94 rv93.1.length k95), (16, .slice p105 rv104.1.length k106), (18, .slice p116 rv115.1.length k117), (20, .slice p129 rv128.1.length k130), (113, .bool ((((((rv93.2 != 0) || (rv104.2 != 0)) || (rv115.2 != 0)) || (rv128.2 != 0)) || (decide ((rv104.1.length : Int) < (rv93.1.length : Int)))) || ((rv104.1.length : Int) != (rv115.1.length : Int))))] a) ?_ ?_
 ·rcases Bool.eq_false_or_eq_true (((((rv93.2 != 0) || (rv104.2 != 0)) || (rv115.2 != 0)) || (rv128.2 != 0)) || (decide ((rv104.1.length : Int) < (rv93.1.length : Int)))) with h143 | h143
  ·have hs := hs.fix 107 (.bool true) rfl (vb h143)
   refine st_skip hs rfl rfl rfl rfl rfl fun a hs => ?_
   refine st_skip hs rfl rfl rfl rfl rfl fun a hs => ?_
   refine st_skip hs rfl rfl rfl rfl rfl fun a hs => ?_
   refine st_skip hs rfl rfl rfl rfl rfl fun a hs => ?_
   refine st_skip hs rfl rfl rfl rfl rfl fun a hs => ?_
   refine sv hs (y_pickT rfl rfl) rfl fun a hs => ?_
   refine nl ?_
   exact ⟨rfl, (hs.fix 113 (.bool ((((((rv93.2 != 0) || (rv104.2 != 0)) || (rv115.2 != 0)) || (rv128.2 != 0)) || (decide ((rv104.1.length : Int) < (rv93.1.length : Int)))) || ((rv104.1.length : Int) != (rv115.1.length : Int)))) rfl (or_t h143)).weaken _ ⟨rfl, rfl, rfl, rfl, rfl, rfl, trivial⟩⟩
  have hs := hs.fix 107 (.bool false) rfl (vb h143)
  refine st_val hs (y_move rfl) ⟨_, rfl, rfl⟩ rfl rfl fun a hs => ?_
  refine st_val hs (y_len Try.runUnderlying41 rfl) ⟨_, rfl, rfl⟩ rfl rfl fun a hs => ?_
  refine st_val hs (y_move rfl) ⟨_, rfl, rfl⟩ rfl rfl fun a hs => ?_
  refine st_val hs (y_len Try.runUnderlying41 rfl) ⟨_, rfl, rfl⟩ rfl rfl fun a hs => ?_
  refine st_val hs (y_neq rfl rfl) ⟨_, rfl, rfl⟩ rfl rfl fun a hs => ?_
  refine sv hs (y_pickF rfl rfl) rfl fun a hs => ?_
  refine nl ?_
  exact ⟨rfl, (hs.fix 113 (.bool ((((((rv93.2 != 0) || (rv104.2 != 0)) || (rv115.2 != 0)) || (rv128.2 != 0)) || (decide ((rv104.1.length : Int) < (rv93.1.length : Int)))) || ((rv104.1.length : Int) != (rv115.1.length : Int)))) rfl (or_f h143)).weaken _ ⟨rfl, rfl, rfl, rfl, rfl, rfl, trivial⟩⟩
 rintro a w1 ⟨h733, hs⟩
 subst h733
 refine mv hs rfl rfl fun a hs => ?_
 obtain ⟨c174, hc174, hsh⟩ := bind_t hsh
 refine wpl_join 9 (fun a w => ∃ (Sv175 : Nat → Prop), Sl 174 [(2, .int .u16 by6), (14, .slice p94 rv93.1.length k95), (16, .slice p105 rv104.1.length k106), (18, .slice p116 rv115.1.length k117), (123, .bool c174)] a ∧ Wd ⟨w0, S0, []⟩ Sv175 [.row p94 rv93.1.length k95 c97 46 9, .row p105 rv104.1.length k106 c108 46 9, .row p116 rv115.1.length k117 c119 46 9] [RowA c97 rv93.1, RowA c108 rv104.1, RowA c119 rv115.1] w) ?_ ?_
 ·rcases Bool.eq_false_or_eq_true ((((((rv93.2 != 0) || (rv104.2 != 0)) || (rv115.2 != 0)) || (rv128.2 != 0)) || (decide ((rv104.1.length : Int) < (rv93.1.length : Int)))) || ((rv104.1.length : Int) != (rv115.1.length : Int))) with h173 | h173
  ·have hs := hs.fix 114 (.bool true) rfl (vb h173)
   have hsh := ite_t hc174 h173
   refine st_skip hs rfl rfl rfl rfl rfl fun a hs => ?_
   refine st_skip hs rfl rfl rfl rfl rfl fun a hs => ?_
   refine st_skip hs rfl rfl rfl rfl rfl fun a hs => ?_
   refine st_skip hs rfl rfl rfl rfl rfl fun a hs => ?_
   refine st_skip hs rfl rfl rfl rfl rfl fun a hs => ?_
   refine st_skip hs rfl rfl rfl rfl rfl fun a hs => ?_
   refine st_skip hs rfl rfl rfl rfl rfl fun a hs => ?_
   refine st_skip hs rfl rfl rfl rfl rfl fun a hs => ?_
   refine sv hs (y_pickT rfl rfl) rfl fun a hs => ?_
   refine wpList_nil ?_
   have hsh := oi hsh
   subst hsh
   refine then_normal ?_
   exact ⟨Sv134, (hs.wk rfl), (hw.ft [3, 2, 1] [5, 4, 3] (by decide) rfl rfl)⟩
  have hs := hs.fix 114 (.bool false) rfl (vb h173)
  have hsh := ite_f hc174 h173
  refine st_val hs (y_move rfl) ⟨_, rfl, rfl⟩ rfl rfl fun a hs => ?_
  refine st_val hs (y_move rfl) ⟨_, rfl, rfl⟩ rfl rfl fun a hs => ?_
  obtain ⟨l177, h176, hsh⟩ := bind_t hsh
  have hw := hw.nilRow Pick 46
  refine w_appendR (α := Pick) hs hw El41 0 rfl rfl rfl 0 rfl 4 rfl 6 rfl h176 rfl ⟨_, rfl, rfl⟩ ?_
  intro p178 k179 c180 a w hs hw
  refine st_val hs (y_move rfl) ⟨_, rfl, rfl⟩ rfl rfl fun a hs => ?_
  obtain ⟨l182, h181, hsh⟩ := bind_t hsh
  refine w_appendR (α := Pick) hs hw El41 0 rfl rfl rfl 0 rfl 2 rfl 5 rfl h181 rfl ⟨_, rfl, rfl⟩ ?_
  intro p183 k184 c185 a w hs hw
  obtain ⟨rv187, h186, hsh⟩ := bind_t hsh
  obtain ⟨Sv192, hw⟩ := w_share (α := Pick) hw 0 rfl 0 rfl
  refine st_callR hs (picker_Sort_ok h186 hw.dom (hw.envAt 0 rfl)) (do_call Try.call22 rfl) ⟨_, rfl, rfl⟩ rfl rfl ?_
  intro v196 Sv193 w a h194 h195 hs
  obtain ⟨p188, k189, c191, rfl, h197, h190⟩ := h195
  have hw := hw.callN h194 h197
  have hw := hw.addE (e := RowA c191 rv187) h190
  obtain ⟨rv199, h198, hsh⟩ := bind_t hsh
  refine st_callR hs (ref23_Same_ok h198 hw.bdom (hw.bRow 1 rfl 5 rfl) (hw.bRow 0 rfl 0 rfl)) (do_call Try.call15 rfl) ⟨_, rfl, rfl⟩ rfl rfl ?_
  intro v203 Sv200 w a h201 h202 hs
  subst h202
  have hw := hw.callB h201
  refine st_val hs (y_not rfl) ⟨_, rfl, rfl⟩ rfl rfl fun a hs => ?_
  refine sv hs (y_pickF rfl rfl) rfl fun a hs => ?_
  refine wpList_nil ?_
  have hsh := oi hsh
  subst hsh
  refine then_normal ?_
  exact ⟨Sv193, (hs.wk rfl), (hw.ft [4, 3, 2] [10, 9, 8] (by decide) rfl rfl)⟩
 rintro a w ⟨Sv175, hs, hw⟩
 refine nl ?_
 refine wp_cond_split (hs.ev rfl) (fun h206 => ?_) (fun h206 => ?_)
 ·have hsh := ite_t hsh h206
  refine sr ?_
  refine av hs rfl rfl fun a hs => ?_
  refine nl ?_
  have hsh := oi hsh
  subst hsh
  refine wp_ret ?_
  refine then_ret ?_
  exact ret1 hs rfl (rv_tmp rfl) (hw.ret rfl)
 have hsh := ite_f hsh h206
 refine wp_skip ?_
 refine then_normal ?_
 refine wp_seq ?_
 refine sr ?_
 refine mv hs rfl rfl fun a hs => ?_
 refine sv hs (y_len Try.runUnderlying41 rfl) rfl fun a hs => ?_
 refine mv hs rfl rfl fun a hs => ?_
 refine nl ?_
 refine wp_block ?_
 refine wp_while (fun sv389 a w => ∃ (Sv509 : Nat → Prop), Sl 174 [(2, .int .u16 by6), (14, .slice p94 rv93.1.length k95), (16, .slice p105 rv104.1.length k106), (18, .slice p116 rv115.1.length k117), (125, .int .i64 (rv104.1.length : Int)), (126, .int .i64 sv389)] a ∧ Wd ⟨w0, S0, []⟩ Sv509 [.row p94 rv93.1.length k95 c97 46 9, .row p105 rv104.1.length k106 c108 46 9, .row p116 rv115.1.length k117 c119 46 9] [RowA c97 rv93.1, RowA c108 rv104.1, RowA c119 rv115.1] w) 0 hsh ⟨Sv175, (hs.wk rfl), (hw.ft [0, 1, 2] [0, 1, 2] (by decide) rfl rfl)⟩ ?_
 repeat clear hsh
 rintro sv389 a w tv570 ⟨Sv509, hs, hw⟩ hsh hd569
 delta law23_PickerExtends_l2 at hsh
 refine sr ?_
 refine sv hs (y_lss rfl rfl) rfl fun a hs => ?_
 refine nl ?_
 refine wp_seq ?_
 refine wp_cond_split (hs.ev rfl) (fun h574 => ?_) (fun h574 => ?_)
 ·have hsh := ite_t hsh h574
  refine wp_skip ?_
  refine then_normal ?_
  refine wp_seq ?_
  refine wp_block ?_
  refine sr ?_
  refine mv hs rfl rfl fun a hs => ?_
  refine av hs rfl rfl fun a hs => ?_
  refine nl ?_
  refine wp_seq ?_
  refine wp_seq ?_
  obtain ⟨c659, hc659, hsh⟩ := bind_t hsh
  refine wp_only (fun a w => ∃ (Sv660 : Nat → Prop), Sl 174 [(2, .int .u16 by6), (14, .slice p94 rv93.1.length k95), (16, .slice p105 rv104.1.length k106), (18, .slice p116 rv115.1.length k117), (22, .int .i64 sv389), (125, .int .i64 (rv104.1.length : Int)), (126, .int .i64 sv389), (143, .bool c659)] a ∧ Wd ⟨w0, S0, []⟩ Sv660 [.row p94 rv93.1.length k95 c97 46 9, .row p105 rv104.1.length k106 c108 46 9, .row p116 rv115.1.length k117 c119 46 9] [RowA c97 rv93.1, RowA c108 rv104.1, RowA c119 rv115.1] w) ?_ ?_
  ·rcases Bool.eq_false_or_eq_true (decide (sv389 < (rv93.1.length : Int))) with h661 | h661
   ·have h662 := ite_t hc659 h661
    obtain ⟨x665, h663, h662⟩ := bind_t h662
    obtain ⟨b672, q669, c670, h673, h666, h667, h671, h664⟩ := hw.elemRV (α := Pick) 0 rfl 0 rfl h663
    have hsv674 := hs
    have hwv675 := hw
    subst h673
    have hs := hsv674
    have hw := hwv675
    obtain ⟨_, _, _, _, _, _, _, _, _, rfl, rfl, rfl, rfl, rfl, rfl, rfl, rfl, rfl, rfl⟩ := h664
    obtain ⟨x678, h676, h662⟩ := bind_t h662
    obtain ⟨b685, q682, c683, h686, h679, h680, h684, h677⟩ := hw.elemRV (α := Pick) 1 rfl 1 rfl h676
    have hsv687 := hs
    have hwv688 := hw
    subst h686
    have hs := hsv687
    have hw := hwv688
    obtain ⟨_, _, _, _, _, _, _, _, _, rfl, rfl, rfl, rfl, rfl, rfl, rfl, rfl, rfl, rfl⟩ := h677
    refine h_b (C := Cls [.row (some ⟨b672, 0, none⟩) rv93.1.length k95 c97 46 9, .row (some ⟨b685, 0, none⟩) rv104.1.length k106 c108 46 9, .row p116 rv115.1.length k117 c119 46 9] []) (by kernel_rfl) rfl (hw.drew.cs [0, 1, 2] [] rfl rfl) fun hC => ?_
    have hw := hw.drew
    refine gm hs 0 rfl rfl rfl hC fun a hs => ?_
    refine gm hs 1 rfl rfl rfl hC fun a hs => ?_
    refine gv hs 2 rfl rfl hC (fun w hC => y_len Try.runUnderlying41 rfl) fun a hs => ?_
    refine gv hs 3 rfl rfl hC (fun w hC => y_lss rfl rfl) fun a hs => ?_
    refine gm hs 4 rfl rfl rfl hC fun a hs => ?_
    have hs := hs.fix 133 (.bool true) rfl (vb h661)
    refine gt hs 5 rfl ⟨_, rfl, rfl⟩ rfl hC (fun w hC => y_move rfl) fun a hs => ?_
    refine gt hs 6 rfl ⟨_, rfl, rfl⟩ rfl hC (fun w hC => y_move rfl) fun a hs => ?_
    refine gt hs 7 rfl ⟨_, rfl, rfl⟩ rfl hC (fun w hC => y_indexAt Try.runUnderlying41 Try.sizeOf46 rfl rfl h666.1 h666.2 h667) fun a hs => ?_
    refine gt hs 8 rfl ⟨_, rfl, rfl⟩ rfl hC (fun w hC => y_loadQA (j := 0) (hC.ownAt 0 rfl) rfl Try.isAgg46 Try.sizeOf46 h671 rfl rfl) fun a hs => ?_
    refine gt hs 9 rfl ⟨_, rfl, rfl⟩ rfl hC (fun w hC => y_move rfl) fun a hs => ?_
    refine gt hs 10 rfl ⟨_, rfl, rfl⟩ rfl hC (fun w hC => y_move rfl) fun a hs => ?_
    refine gt hs 11 rfl ⟨_, rfl, rfl⟩ rfl hC (fun w hC => y_indexAt Try.runUnderlying41 Try.sizeOf46 rfl rfl h679.1 h679.2 h680) fun a hs => ?_
    refine gt hs 12 rfl ⟨_, rfl, rfl⟩ rfl hC (fun w hC => y_loadQA (j := 0) (hC.ownAt 1 rfl) rfl Try.isAgg46 Try.sizeOf46 h684 rfl rfl) fun a hs => ?_
    refine gt hs 13 rfl ⟨_, rfl, rfl⟩ rfl hC (fun w hC => y_neqA (by kernel_rfl) rfl rfl (eqv_struct Try.runUnderlying46 (by kernel_rfl) (EqF.consA rfl Try.isAgg33 Try.sizeOf33 rfl rfl (eqv_struct Try.runUnderlying33 (by kernel_rfl) (EqF.cons1 rfl Try.isAgg9 rfl rfl (eqv_str Try.runUnderlying9) (EqF.cons1 rfl Try.isAgg9 rfl rfl (eqv_str Try.runUnderlying9) (EqF.cons1 rfl Try.isAgg9 rfl rfl (eqv_str Try.runUnderlying9) (EqF.cons1 rfl Try.isAgg9 rfl rfl (eqv_str Try.runUnderlying9) EqF.nil))))) (EqF.cons1 rfl Try.isAgg3 rfl rfl (eqv_int Try.runUnderlying3) (EqF.cons1 rfl Try.isAgg3 rfl rfl (eqv_int Try.runUnderlying3) (EqF.cons1 rfl Try.isAgg3 rfl rfl (eqv_int Try.runUnderlying3) (EqF.cons1 rfl Try.isAgg3 rfl rfl (eqv_int Try.runUnderlying3) (EqF.cons1 rfl Try.isAgg3 rfl rfl (eqv_int Try.runUnderlying3) EqF.nil)))))))) fun a hs => ?_
    refine gv hs 14 rfl rfl hC (fun w hC => y_pickTE (v := .bool c659) rfl rfl (vbs h662)) fun a hs => ?_
    refine h_done (by kernel_rfl) ?_
    exact ⟨Sv509, (hs.wk rfl), (hw.ft [0, 1, 2] [0, 1, 2] (by decide) rfl rfl)⟩
   have h689 := ite_f hc659 h661
   refine h_b (C := Cls [.row p94 rv93.1.length k95 c97 46 9, .row p105 rv104.1.length k106 c108 46 9, .row p116 rv115.1.length k117 c119 46 9] []) (by kernel_rfl) rfl (hw.drew.cs [0, 1, 2] [] rfl rfl) fun hC => ?_
   have hw := hw.drew
   refine gm hs 0 rfl rfl rfl hC fun a hs => ?_
   refine gm hs 1 rfl rfl rfl hC fun a hs => ?_
   refine gv hs 2 rfl rfl hC (fun w hC => y_len Try.runUnderlying41 rfl) fun a hs => ?_
   refine gv hs 3 rfl rfl hC (fun w hC => y_lss rfl rfl) fun a hs => ?_
   refine gm hs 4 rfl rfl rfl hC fun a hs => ?_
   have hs := hs.fix 133 (.bool false) rfl (vb h661)
   refine gs hs 5 rfl rfl rfl rfl hC fun a hs => ?_
   refine gs hs 6 rfl rfl rfl rfl hC fun a hs => ?_
   refine gs hs 7 rfl rfl rfl rfl hC fun a hs => ?_
   refine gs hs 8 rfl rfl rfl rfl hC fun a hs => ?_
   refine gs hs 9 rfl rfl rfl rfl hC fun a hs => ?_
   refine gs hs 10 rfl rfl rfl rfl hC fun a hs => ?_
   refine gs hs 11 rfl rfl rfl rfl hC fun a hs => ?_
   refine gs hs 12 rfl rfl rfl rfl hC fun a hs => ?_
   refine gs hs 13 rfl rfl rfl rfl hC fun a hs => ?_
   refine gv hs 14 rfl rfl hC (fun w hC => y_pickFE (v := .bool c659) rfl rfl (vbs h689)) fun a hs => ?_
   refine h_done (by kernel_rfl) ?_
   exact ⟨Sv509, (hs.wk rfl), (hw.ft [0, 1, 2] [0, 1, 2] (by decide) rfl rfl)⟩
  rintro a w ⟨Sv660, hs, hw⟩
  refine then_normal ?_
  refine wp_cond_split (hs.ev rfl) (fun h691 => ?_) (fun h691 => ?_)
  ·have hsh := ite_t hsh h691
   refine sr ?_
   refine av hs rfl rfl fun a hs => ?_
   refine nl ?_
   have hsh := oi hsh
   subst hsh
   have h692 := hd569 _ rfl
   subst h692
   refine wp_ret ?_
   refine then_ret ?_
   refine blk_ret ?_
   refine then_ret ?_
   refine then_ret ?_
   refine blk_ret ?_
   refine then_ret ?_
   exact ret1 hs rfl (rv_tmp rfl) (hw.ret rfl)
  have hsh := ite_f hsh h691
  refine wp_skip ?_
  refine then_normal ?_
  refine sr ?_
  refine mv hs rfl rfl fun a hs => ?_
  refine mv hs rfl rfl fun a hs => ?_
  obtain ⟨x695, h693, hsh⟩ := bind_t hsh
  obtain ⟨b702, q699, c700, h703, h696, h697, h701, h694⟩ := hw.elemRV (α := Pick) 2 rfl 2 rfl h693
  have hsv704 := hs
  have hwv705 := hw
  subst h703
  have hs := hsv704
  have hw := hwv705
  obtain ⟨_, _, _, _, _, _, _, _, _, rfl, rfl, rfl, rfl, rfl, rfl, rfl, rfl, rfl, rfl⟩ := h694
  refine sv hs (y_indexAt Try.runUnderlying41 Try.sizeOf46 rfl rfl h696.1 h696.2 h697) rfl fun a hs => ?_
  refine sv hs (y_loadQA (j := 0) (hw.ownAt 2 rfl) rfl Try.isAgg46 Try.sizeOf46 h701 rfl rfl) rfl fun a hs => ?_
  refine w_alloc (cs := [.string ByteArray.empty, .string ByteArray.empty, .string ByteArray.empty, .string ByteArray.empty, .int .i64 0, .int .i64 0, .int .i64 0, .int .i64 0, .int .i64 0]) hs hw Try.zeroValue46 rfl rfl trivial ?_
  intro b706 a w hs hw
  refine w_store (m := 9) (cs' := [.string x695.Source.Network, .string x695.Source.Station, .string x695.Source.Location, .string x695.Source.Channel, .int .i64 x695.Time, .int .i64 x695.Early, .int .i64 x695.Late, .int .i64 x695.Amplitude, .int .i64 x695.Polarity]) hs hw 0 rfl rfl rfl Try.sizeOf46 rfl rfl rfl rfl trivial ?_
  intro a w hs hw
  refine nl ?_
  refine sr ?_
  refine sv hs (y_fieldAddr (o' := 4) Try.runUnderlying46 rfl Try.sizeOf3 rfl rfl rfl) rfl fun a hs => ?_
  refine sv hs (y_loadB1 (hw.ownAt 0 rfl) rfl Try.isAgg3 rfl) rfl fun a hs => ?_
  refine mv hs rfl rfl fun a hs => ?_
  refine sv hs (y_convert Try.runUnderlying60 Try.runUnderlying3 rfl) rfl fun a hs => ?_
  refine sv hs (y_sub rfl rfl) rfl fun a hs => ?_
  refine sv hs (y_fieldAddr (o' := 5) Try.runUnderlying46 rfl Try.sizeOf3 rfl rfl rfl) rfl fun a hs => ?_
  refine sv hs (y_loadB1 (hw.ownAt 0 rfl) rfl Try.isAgg3 rfl) rfl fun a hs => ?_
  refine mv hs rfl rfl fun a hs => ?_
  refine sv hs (y_convert Try.runUnderlying60 Try.runUnderlying3 rfl) rfl fun a hs => ?_
  refine sv hs (y_sub rfl rfl) rfl fun a hs => ?_
  refine sv hs (y_fieldAddr (o' := 6) Try.runUnderlying46 rfl Try.sizeOf3 rfl rfl rfl) rfl fun a hs => ?_
  refine sv hs (y_loadB1 (hw.ownAt 0 rfl) rfl Try.isAgg3 rfl) rfl fun a hs => ?_
  refine mv hs rfl rfl fun a hs => ?_
  refine sv hs (y_convert Try.runUnderlying60 Try.runUnderlying3 rfl) rfl fun a hs => ?_
  refine sv hs (y_sub rfl rfl) rfl fun a hs => ?_
  refine sv hs (y_fieldAddr (o' := 4) Try.runUnderlying46 rfl Try.sizeOf3 rfl rfl rfl) rfl fun a hs => ?_
  refine w_store (m := 1) (cs' := [.string x695.Source.Network, .string x695.Source.Station, .string x695.Source.Location, .string x695.Source.Channel, .int .i64 (w64 (x695.Time - (w64 by6))), .int .i64 x695.Early, .int .i64 x695.Late, .int .i64 x695.Amplitude, .int .i64 x695.Polarity]) hs hw 0 rfl rfl rfl Try.sizeOf3 rfl rfl rfl rfl trivial ?_
  intro a w hs hw
  refine sv hs (y_fieldAddr (o' := 5) Try.runUnderlying46 rfl Try.sizeOf3 rfl rfl rfl) rfl fun a hs => ?_
  refine w_store (m := 1) (cs' := [.string x695.Source.Network, .string x695.Source.Station, .string x695.Source.Location, .string x695.Source.Channel, .int .i64 (w64 (x695.Time - (w64 by6))), .int .i64 (w64 (x695.Early - (w64 by6))), .int .i64 x695.Late, .int .i64 x695.Amplitude, .int .i64 x695.Polarity]) hs hw 0 rfl rfl rfl Try.sizeOf3 rfl rfl rfl rfl trivial ?_
  intro a w hs hw
  refine sv hs (y_fieldAddr (o' := 6) Try.runUnderlying46 rfl Try.sizeOf3 rfl rfl rfl) rfl fun a hs => ?_
  refine w_store (m := 1) (cs' := [.string x695.Source.Network, .string x695.Source.Station, .string x695.Source.Location, .string x695.Source.Channel, .int .i64 (w64 (x695.Time - (w64 by6))), .int .i64 (w64 (x695.Early - (w64 by6))), .int .i64 (w64 (x695.Late - (w64 by6))), .int .i64 x695.Amplitude, .int .i64 x695.Polarity]) hs hw 0 rfl rfl rfl Try.sizeOf3 rfl rfl rfl rfl trivial ?_
  intro a w hs hw
  refine nl ?_
  refine wp_seq ?_
  obtain ⟨x709, h707, hsh⟩ := bind_t hsh
  obtain ⟨b716, q713, c714, h717, h710, h711, h715, h708⟩ := hw.elemRV (α := Pick) 2 rfl 1 rfl h707
  have hsv718 := hs
  have hwv719 := hw
  subst h717
  have hs := hsv718
  have hw := hwv719
  obtain ⟨_, _, _, _, _, _, _, _, _, rfl, rfl, rfl, rfl, rfl, rfl, rfl, rfl, rfl, rfl⟩ := h708
  refine wp_only (fun a w => ∃ (Sv720 : Nat → Prop), Sl 174 [(2, .int .u16 by6), (14, .slice p94 rv93.1.length k95), (16, .slice (some ⟨b716, 0, none⟩) rv104.1.length k106), (18, .slice (some ⟨b702, 0, none⟩) rv115.1.length k117), (125, .int .i64 (rv104.1.length : Int)), (126, .int .i64 sv389), (171, .bool (!(((x695.Source.Network == x709.Source.Network) && ((x695.Source.Station == x709.Source.Station) && ((x695.Source.Location == x709.Source.Location) && ((x695.Source.Channel == x709.Source.Channel) && true)))) && (((w64 (x695.Time - (w64 by6))) == x709.Time) && (((w64 (x695.Early - (w64 by6))) == x709.Early) && (((w64 (x695.Late - (w64 by6))) == x709.Late) && ((x695.Amplitude == x709.Amplitude) && ((x695.Polarity == x709.Polarity) && true))))))))] a ∧ Wd ⟨w0, S0, []⟩ Sv720 [.row p94 rv93.1.length k95 c97 46 9, .row (some ⟨b716, 0, none⟩) rv104.1.length k106 c108 46 9, .row (some ⟨b702, 0, none⟩) rv115.1.length k117 c119 46 9] [RowA c97 rv93.1, RowA c108 rv104.1, RowA c119 rv115.1] w) ?_ ?_
  ·refine h_b (C := Cls [.box b706 [.string x695.Source.Network, .string x695.Source.Station, .string x695.Source.Location, .string x695.Source.Channel, .int .i64 (w64 (x695.Time - (w64 by6))), .int .i64 (w64 (x695.Early - (w64 by6))), .int .i64 (w64 (x695.Late - (w64 by6))), .int .i64 x695.Amplitude, .int .i64 x695.Polarity] 46, .row p94 rv93.1.length k95 c97 46 9, .row (some ⟨b716, 0, none⟩) rv104.1.length k106 c108 46 9, .row (some ⟨b702, 0, none⟩) rv115.1.length k117 c119 46 9] []) (by kernel_rfl) rfl (hw.drew.cs [0, 1, 2, 3] [] rfl rfl) fun hC => ?_
   have hw := hw.drew
   refine gv hs 0 rfl rfl hC (fun w hC => y_loadBA (hC.ownAt 0 rfl) rfl Try.isAgg46 Try.sizeOf46 rfl rfl) fun a hs => ?_
   refine gm hs 1 rfl rfl rfl hC fun a hs => ?_
   refine gm hs 2 rfl rfl rfl hC fun a hs => ?_
   refine gv hs 3 rfl rfl hC (fun w hC => y_indexAt Try.runUnderlying41 Try.sizeOf46 rfl rfl h710.1 h710.2 h711) fun a hs => ?_
   refine gv hs 4 rfl rfl hC (fun w hC => y_loadQA (j := 0) (hC.ownAt 2 rfl) rfl Try.isAgg46 Try.sizeOf46 h715 rfl rfl) fun a hs => ?_
   refine gv hs 5 rfl rfl hC (fun w hC => y_neqA (by kernel_rfl) rfl rfl (eqv_struct Try.runUnderlying46 (by kernel_rfl) (EqF.consA rfl Try.isAgg33 Try.sizeOf33 rfl rfl (eqv_struct Try.runUnderlying33 (by kernel_rfl) (EqF.cons1 rfl Try.isAgg9 rfl rfl (eqv_str Try.runUnderlying9) (EqF.cons1 rfl Try.isAgg9 rfl rfl (eqv_str Try.runUnderlying9) (EqF.cons1 rfl Try.isAgg9 rfl rfl (eqv_str Try.runUnderlying9) (EqF.cons1 rfl Try.isAgg9 rfl rfl (eqv_str Try.runUnderlying9) EqF.nil))))) (EqF.cons1 rfl Try.isAgg3 rfl rfl (eqv_int Try.runUnderlying3) (EqF.cons1 rfl Try.isAgg3 rfl rfl (eqv_int Try.runUnderlying3) (EqF.cons1 rfl Try.isAgg3 rfl rfl (eqv_int Try.runUnderlying3) (EqF.cons1 rfl Try.isAgg3 rfl rfl (eqv_int Try.runUnderlying3) (EqF.cons1 rfl Try.isAgg3 rfl rfl (eqv_int Try.runUnderlying3) EqF.nil)))))))) fun a hs => ?_
   refine h_done (by kernel_rfl) ?_
   exact ⟨Sv660, (hs.wk rfl), (hw.ft [1, 2, 3] [0, 1, 2] (by decide) rfl rfl)⟩
  rintro a w ⟨Sv720, hs, hw⟩
  refine then_normal ?_
  refine wp_cond_split (hs.ev rfl) (fun h722 => ?_) (fun h722 => ?_)
  ·have hsh := ite_t hsh h722
   refine sr ?_
   refine av hs rfl rfl fun a hs => ?_
   refine nl ?_
   have hsh := oi hsh
   subst hsh
   have h723 := hd569 _ rfl
   subst h723
   refine wp_ret ?_
   refine blk_ret ?_
   refine then_ret ?_
   refine then_ret ?_
   refine blk_ret ?_
   refine then_ret ?_
   exact ret1 hs rfl (rv_tmp rfl) (hw.ret rfl)
  have hsh := ite_f hsh h722
  refine wp_skip ?_
  refine blk_normal ?_
  refine then_normal ?_
  refine wp_region_lit ?_
  refine sv hs (y_add rfl rfl) rfl fun a hs => ?_
  refine mv hs rfl rfl fun a hs => ?_
  refine nl ?_
  exact ⟨_, (Option.some.inj hsh).symm, Sv720, (hs.wk rfl), (hw.ft [0, 1, 2] [0, 1, 2] (by decide) rfl rfl)⟩
 have hsh := ite_f hsh h574
 obtain ⟨rv731, hsh, h732⟩ := map_t hsh
 have h732 := (hd569 _ h732.symm).symm
 subst h732
 refine wp_exit ?_
 refine then_exit ?_
 refine then_exit ?_
 refine blk_exit ?_
 refine then_normal ?_
 refine sr ?_
 obtain ⟨rv725, h724, hsh⟩ := bind_t hsh
 refine st_callR hs (law23_sane_ok h724 hw.bdom) (do_call Try.call8 rfl) trivial rfl rfl ?_
 intro v729 Sv726 w a h727 h728 hs
 subst h728
 have hw := hw.callB h727
 refine av hs rfl rfl fun a hs => ?_
 refine nl ?_
 have hsh := oi hsh
 subst hsh
 refine wp_ret ?_
 exact ret1 hs rfl (rv_tmp rfl) (hw.ret rfl)

end Go.Proofs.Ytmlekplbmfengaa.Wk

/- The walks of ComposeExact, part 3: each Go function computes what its plain program computes. Printed by a program of ours. -/
import Derived.Test.YthdimlepjpnncaaGreatProg
import Derived.Test.YthdimlepjpnncaaGreatDat
import Derived.Test.YthdimlepjpnncaaGreatSh
import Derived.Test.YthdimlepjpnncaaGreatLa1
import Derived.KernelRfl
import Derived.Test.YthdimlepjpnncaaGreatLb1
import Derived.Shelf.SlLaysF0
import Derived.Test.YthdimlepjpnncaaGreatWComposeExact2
namespace Go.Proofs.YthdimlepjpnncaaGreat.Wk
open Go Go.RowKit Go.Proofs Go.Proofs.YthdimlepjpnncaaGreat.Sh Go.Proofs.Tryz
set_option linter.unusedVariables false
set_option linter.unusedSimpArgs false
set_option maxHeartbeats 4000000
set_option maxRecDepth 100000
abbrev ref15_find_rd (w0 : World) (X : List Nat) (r : (Int × Int × Bool)) : Rd := fun S w v => v = .tuple #[iv r.1, iv r.2.1, .bool r.2.2]
theorem ref15_find_ok {w0 S0 p2 k3 l1 t5 r} (u : ref15_find l1 t5 = some r) (hS : Dm S0 w0) (h4 : (Sq p2 k3 l1).p S0 w0) : Ck Tryz.prog 68 #[sl p2 k3 l1, iv t5] w0 S0 [] ref15_find_rd r := by
 refine en 58 func68 rfl hS rfl rfl rfl fun a s d => ?_
 have d := d.addE h4
 refine sz0 3 s rfl fun a s => ?_
 refine wp_seq (sz0 1 s rfl fun a s => ?_)
 refine wp_block (wp_while (fun sv1124 a w => ∃ Sv1868, Sl 58 [(0, sl p2 k3 l1), (1, iv t5), (7, iv sv1124)] a ∧ Wd ⟨w0, S0, []⟩ Sv1868 [] [Sq p2 k3 l1] w) 0 u ⟨S0, wj s d [] [0]⟩ ?_)
 repeat clear u
 rintro sv1124 a w tv2241 ⟨Sv1868, s, d⟩ u hd2240
 refine wp_seq (sz0 4 s rfl fun a s => ?_)
 refine cd s u rfl (fun u => ?_) fun u => ?_
 ·refine sk (wp_seq (wp_block (sz0 1 s rfl fun a s => ?_)))
  refine wp_block (wp_while (fun sv2982 a w => ∃ Sv3226, Sl 58 [(0, sl p2 k3 l1), (1, iv t5), (7, iv sv1124), (8, iv sv2982)] a ∧ Wd ⟨w0, S0, []⟩ Sv3226 [] [Sq p2 k3 l1] w) 0 u ⟨Sv1868, wj s d [] [0]⟩ ?_)
  repeat clear u
  rintro sv2982 a w tv3349 ⟨Sv3226, s, d⟩ u hd3348
  refine wp_seq (sn0 3 s rfl fun a s => ?_)
  obtain ⟨x3352, h3350, u⟩ := bt u
  obtain ⟨b3358, o3359, q3356, c3357, h3360, h3353, h3354, h3355, h3351⟩ := d.elemV 0 rfl h3350
  have hsv3361 := s
  have hwv3362 := d
  subst h3360
  have s := hsv3361
  have d := hwv3362
  obtain ⟨_, _, _, _, _, _, _, _, _, _, _, _, rfl, rfl, rfl, rfl, rfl, rfl, rfl, rfl, rfl, rfl, rfl, rfl, ⟨p3363, n3364, k3365, rfl, h3366⟩⟩ := h3351
  obtain rfl := h3366.1
  have d := (d.addE (e := SlA p3363 _ k3365 x3352.Samples) h3366).addE h3355
  refine sv s (y_indexAt runUnderlying27 sizeOf35 rfl rfl h3353.1 h3353.2 h3354) rfl fun a s => ?_
  refine sv s (y_fieldAddr (o' := q3356 + 11) runUnderlying35 rfl sizeOf22 rfl rfl rfl) rfl fun a s => ?_
  refine sv s (y_loadE1 (j := 11) (d.ceAt 0 rfl) rfl isAgg22 rfl) rfl fun a s => ?_
  refine rz0 2 s rfl fun a s => ?_
  refine cd s u rfl (fun u => ?_) fun u => ?_
  ·refine sk (wp_seq (wp_block (sn0 2 s rfl fun a s => ?_)))
   obtain ⟨x3474, h3472, u⟩ := bt u
   obtain ⟨q3478, c3479, h3475, h3476, h3477, h3473⟩ := d.elemK 2 rfl h3472
   obtain ⟨_, _, _, _, _, _, _, _, _, _, _, _, rfl, rfl, rfl, rfl, rfl, rfl, rfl, rfl, rfl, rfl, rfl, rfl, ⟨p3480, n3481, k3482, rfl, h3483⟩⟩ := h3473
   obtain rfl := h3483.1
   have d := (d.addE (e := SlA p3480 _ k3482 x3474.Samples) h3483).addE h3477
   refine sv s (y_indexAt runUnderlying27 sizeOf35 rfl rfl h3475.1 h3475.2 h3476) rfl fun a s => ?_
   refine sv s (y_loadEA (j := 0) (d.ceAt 0 rfl) rfl isAgg35 sizeOf35 rfl rfl) rfl fun a s => ?_
   refine mv s rfl rfl fun a s => ?_
   obtain ⟨rv3485, h3484, u⟩ := bt u
   refine cV s d (ref14_Time_ok h3484 d.bdom (d.bE 1 rfl)) (do_call call52 rfl) rfl fun a w s d => ?_
   refine rn0 3 s rfl fun a s => ?_
   obtain ⟨c3511, hc3511, u⟩ := bt u
   refine wpl_join 10 (fun a w => ∃ Sv3512, Sl 58 [(0, sl (some ⟨b3358, o3359, none⟩) k3 l1), (1, iv t5), (7, iv sv1124), (8, iv sv2982), (43, .bool c3511)] a ∧ Wd ⟨w0, S0, []⟩ Sv3512 [] [Sq (some ⟨b3358, o3359, none⟩) k3 l1] w) ?_ ?_
   ·rcases Bool.eq_false_or_eq_true (decide (rv3485 ≤ t5)) with h3510 | h3510
    ·have s := s.bT 33 rfl h3510
     have u := ite_t hc3511 h3510
     refine rn0 3 s rfl fun a s => ?_
     obtain ⟨x3515, h3513, u⟩ := bt u
     obtain ⟨q3519, c3520, h3516, h3517, h3518, h3514⟩ := d.elemK 4 rfl h3513
     obtain ⟨_, _, _, _, _, _, _, _, _, _, _, _, rfl, rfl, rfl, rfl, rfl, rfl, rfl, rfl, rfl, rfl, rfl, rfl, ⟨p3521, n3522, k3523, rfl, h3524⟩⟩ := h3514
     obtain rfl := h3524.1
     have d := (d.addE (e := SlA p3521 _ k3523 x3515.Samples) h3524).addE h3518
     refine st_val s (y_indexAt runUnderlying27 sizeOf35 rfl rfl h3516.1 h3516.2 h3517) ⟨_, rfl, rfl⟩ rfl rfl fun a s => ?_
     refine st_val s (y_loadEA (j := 0) (d.ceAt 0 rfl) rfl isAgg35 sizeOf35 rfl rfl) ⟨_, rfl, rfl⟩ rfl rfl fun a s => ?_
     refine rn0 2 s rfl fun a s => ?_
     obtain ⟨rv3526, h3525, u⟩ := bt u
     refine st_callR s (ref14_Time_ok h3525 d.bdom (d.bE 1 rfl)) (do_call call52 rfl) ⟨_, rfl, rfl⟩ rfl rfl ?_
     rintro v3530 Sv3527 w a h3528 rfl s
     have d := d.callB h3528
     refine rn0 2 s rfl fun a s => ?_
     refine wpList_nil ?_
     obtain rfl := oi u
     exact tn ⟨Sv3226, wj s d [] [6]⟩
    have s := s.bF 33 rfl h3510
    have u := ite_f hc3511 h3510
    refine rn0 10 s rfl fun a s => ?_
    refine wpList_nil ?_
    obtain rfl := oi u
    exact tn ⟨Sv3226, wj s d [] [4]⟩
   rintro a w ⟨Sv3512, s, d⟩
   refine nl (cd s u rfl (fun u => ?_) fun u => ?_)
   ·refine wp_seq ?_
    obtain ⟨x3576, h3574, u⟩ := bt u
    obtain ⟨q3580, c3581, h3577, h3578, h3579, h3575⟩ := d.elemK 0 rfl h3574
    obtain ⟨_, _, _, _, _, _, _, _, _, _, _, _, rfl, rfl, rfl, rfl, rfl, rfl, rfl, rfl, rfl, rfl, rfl, rfl, ⟨p3582, n3583, k3584, rfl, h3585⟩⟩ := h3575
    obtain rfl := h3585.1
    have d := (d.addE (e := SlA p3582 _ k3584 x3576.Samples) h3585).addE h3579
    obtain ⟨rv3587, h3586, u⟩ := bt u
    obtain ⟨x3590, h3588, u⟩ := bt u
    obtain ⟨q3594, c3595, h3591, h3592, h3593, h3589⟩ := d.elemK 2 rfl h3588
    obtain ⟨_, _, _, _, _, _, _, _, _, _, _, _, rfl, rfl, rfl, rfl, rfl, rfl, rfl, rfl, rfl, rfl, rfl, rfl, ⟨p3596, n3597, k3598, rfl, h3599⟩⟩ := h3589
    obtain rfl := h3599.1
    have d := (d.addE (e := SlA p3596 _ k3598 x3590.Samples) h3599).addE h3593
    obtain ⟨x3602, h3600, u⟩ := bt u
    obtain ⟨b3608, o3609, q3606, c3607, h3610, h3603, h3604, h3605, h3601⟩ := d.elemV 1 rfl h3600
    have hsv3611 := s
    have hwv3612 := d
    subst h3610
    have s := hsv3611
    have d := hwv3612
    obtain ⟨_, rfl, rfl⟩ := h3601
    have d := d.addE h3605
    refine wp_only (fun a w => ∃ Sv3613, Sl 58 [(4, iv rv3587), (5, iv x3602), (6, .bool true)] a ∧ Wd ⟨w0, S0, []⟩ Sv3613 [] [] w) ?_ ?_
    ·refine h_c [] [0, 1, 3] d rfl rfl (by kernel_rfl) rfl fun hC d => ?_
     refine gn 2 [0, 1] [] s hC rfl rfl rfl fun a s => ?_
     refine gx s 2 rfl trivial rfl hC runUnderlying27 sizeOf35 rfl rfl h3577 h3578 fun a s => ?_
     refine gv s 3 rfl rfl hC (fun w hC => y_loadEA (j := 0) (hC.ceAt 2 rfl) rfl isAgg35 sizeOf35 rfl rfl) fun a s => ?_
     refine gn 3 [4, 6, 7] [] s hC rfl rfl rfl fun a s => ?_
     refine gx s 8 rfl trivial rfl hC runUnderlying27 sizeOf35 rfl rfl h3591 h3592 fun a s => ?_
     refine gv s 9 rfl rfl hC (fun w hC => y_fieldAddr (o' := q3594 + 11) runUnderlying35 rfl sizeOf22 rfl rfl rfl) fun a s => ?_
     refine gv s 10 rfl rfl hC (fun w hC => y_loadE1 (j := 11) (hC.ceAt 1 rfl) rfl isAgg22 rfl) fun a s => ?_
     refine gm s 11 rfl rfl rfl hC fun a s => ?_
     refine gx s 12 rfl trivial rfl hC runUnderlying22 sizeOf3 rfl rfl h3603 h3604 fun a s => ?_
     refine gv s 13 rfl rfl hC (fun w hC => y_loadE1 (j := 0) (hC.ceAt 0 rfl) rfl isAgg3 rfl) fun a s => ?_
     refine ho 5 rfl ?_
     refine cV s d (ref14_Time_ok h3586 d.bdom (d.bE 4 rfl)) (do_call call52 rfl) rfl fun a w s d => ?_
     refine h_n [] [0, 1, 3] d rfl rfl fun hC => ?_
     refine gn 3 [14, 15, 16] [] s hC rfl rfl rfl fun a s => ?_
     refine h_done (by kernel_rfl) ?_
     exact ⟨Sv3512, wj s d [] []⟩
    rintro a w ⟨Sv3613, s, d⟩
    refine tn ?_
    obtain rfl := oi u
    have h3619 := hd3348 _ rfl
    subst h3619
    have h3620 := hd2240 _ rfl
    subst h3620
    exact wp_ret (blk_ret (then_ret (then_ret (blk_ret (blk_ret (then_ret (then_ret (blk_ret (then_ret (ret3 s rfl (rv_tmp rfl) (rv_tmp rfl) (rv_tmp rfl) (d.ret rfl)))))))))))
   refine wp_skip (blk_normal (tn (wp_region_lit (rn0 2 s rfl fun a s => ?_))))
   obtain ⟨j3622, h3621, u⟩ := bt u
   refine sv s (y_assignI rfl h3621) rfl fun a s => ?_
   exact nl ⟨_, io u, Sv3512, wj s d [] [0]⟩
  obtain ⟨rv3625, u, h3626⟩ := map_t u
  have h3626 := (hd3348 _ h3626.symm).symm
  subst h3626
  refine wp_exit (then_exit (then_exit (blk_exit (blk_normal (tn (wp_region_lit (rn0 2 s rfl fun a s => ?_)))))))
  obtain ⟨i3624, h3623, u⟩ := bt u
  refine sv s (y_assignI rfl h3623) rfl fun a s => ?_
  exact nl ⟨_, io u, Sv3226, wj s d [] [2]⟩
 obtain ⟨rv3627, u, h3628⟩ := map_t u
 have h3628 := (hd2240 _ h3628.symm).symm
 subst h3628
 refine wp_exit (then_exit (then_exit (blk_exit (tn (sz0 3 s rfl fun a s => ?_)))))
 obtain rfl := oi u
 exact wp_ret (ret3 s rfl (rv_tmp rfl) (rv_tmp rfl) (rv_tmp rfl) (d.ret rfl))
theorem ref15_Value_ok {w0 S0 p2 k3 l1 t5 r} (u : ref15_Value l1 t5 = some r) (hS : Dm S0 w0) (h4 : (Sq p2 k3 l1).p S0 w0) : Ck Tryz.prog 43 #[sl p2 k3 l1, iv t5] w0 S0 [] compose_Value_rd r := by
 refine en 24 func43 rfl hS rfl rfl rfl fun a s d => ?_
 have d := d.addE h4
 refine sz0 2 s rfl fun a s => ?_
 refine sn0 1 s rfl fun a s => ?_
 obtain ⟨rv7, h6, u⟩ := bt u
 refine cR s (ref15_Compose_ok h6 d.dom (d.envAt 0 rfl)) (do_call call39 rfl) rfl ?_
 rintro v15 Sv12 w a h13 ⟨p8, k9, c11, rfl, h16, h10⟩ s
 have d := (d.callN h13 h16).addE (e := RowA c11 rv7.1) h10
 refine rz0 5 s rfl fun a s => ?_
 refine wp_seq (sz0 2 s rfl fun a s => ?_)
 refine cd s u rfl (fun u => ?_) fun u => ?_
 ·refine sz0 2 s rfl fun a s => ?_
  obtain rfl := oi u
  exact wp_ret (then_ret (ret2 s rfl (rv_tmp rfl) (rv_tmp rfl) (d.ret rfl)))
 refine sk (sn0 2 s rfl fun a s => ?_)
 obtain ⟨rv20, h19, u⟩ := bt u
 refine cV s d (ref15_find_ok h19 d.bdom (d.bRow 0 rfl 0 rfl)) (do_call call68 rfl) rfl fun a w s d => ?_
 refine rz0 6 s rfl fun a s => ?_
 refine sz0 4 s rfl fun a s => ?_
 obtain rfl := oi u
 exact wp_ret (ret2 s rfl (rv_tmp rfl) (rv_tmp rfl) (d.ret rfl))
abbrev compose_Insert_rd (w0 : World) (X : List Nat) (r : ((List Record) × Bool × Int)) : Rd := fun S w v => ∃ p0_0 k0_0 c0_0, v = .tuple #[sl p0_0 k0_0 r.1, .bool r.2.1, iv r.2.2] ∧ Outs X w0 S w [.row p0_0 r.1.length k0_0 c0_0 35 12] ∧ (RowA c0_0 r.1).p S w
theorem compose_Insert_ok {w0 S0 p2 k3 p6 k7 l1 r5 r} (u : compose_Insert l1 r5 = some r) (hS : Dm S0 w0) (h4 : (Sq p2 k3 l1).p S0 w0) (h8 : (Sq p6 k7 r5.Samples).p S0 w0) : Ck Tryz.prog 33 #[sl p2 k3 l1, V35 r5 p6 k7] w0 S0 [] compose_Insert_rd r := by
 refine en 36 func33 rfl hS rfl rfl rfl fun a s d => ?_
 have d := (d.addE h4).addE h8
 refine sr (wb (C35 r5 p6 k7) s d rfl fun b9 a w s d => ?_)
 refine rz0 3 s rfl fun a s => ?_
 refine wp_seq (sn 1 [0] s d rfl rfl fun a s => ?_)
 refine w_litSlice (α := Record) (vs := [V35 r5 p6 k7]) (cs := (C35 r5 p6 k7)) (xs := ([r5] : List Record)) s d El27 rfl rfl rfl rfl rfl rfl ⟨⟨_, _, _, _, _, _, _, _, _, _, _, _, rfl, rfl, rfl, rfl, rfl, rfl, rfl, rfl, rfl, rfl, rfl, rfl, ⟨_, _, _, rfl, d.envAt 0 rfl⟩⟩, rfl⟩ rfl trivial rfl fun b11 a w s d => ?_
 refine mv s rfl rfl fun a s => ?_
 obtain ⟨l13, h12, u⟩ := bt u
 refine w_appendE (α := Record) s d El27 0 rfl rfl rfl 0 rfl 2 rfl h12 rfl trivial ?_
 intro p14 k15 c16 a w s d
 obtain ⟨rv18, h17, u⟩ := bt u
 refine cV s d (compose_alike_ok h17 d.bdom (d.bRow 0 rfl 0 rfl)) (do_call call61 rfl) rfl fun a w s d => ?_
 refine rz0 1 s rfl fun a s => ?_
 refine cd s u rfl (fun u => ?_) fun u => ?_
 ·refine sz0 3 s rfl fun a s => ?_
  obtain rfl := oi u
  have d := d.nilRow Record 35
  exact wp_ret (then_ret (ret3 s rfl (rv_tmp rfl) (rv_tmp rfl) (rv_tmp rfl) (d.ret ⟨none, 0, [], rfl, (d.outs [0] (by decide) rfl), (d.envAt 0 rfl)⟩)))
 refine sk (sn0 1 s rfl fun a s => ?_)
 obtain ⟨rv27, h26, u⟩ := bt u
 refine cR s (compose_order_ok h26 d.dom (d.envAt 3 rfl)) (do_call call62 rfl) rfl ?_
 rintro v35 Sv32 w a h33 ⟨p28, k29, c31, rfl, h36, h30⟩ s
 have d := (d.callN h33 h36).addE (e := RowA c31 rv27) h30
 refine rz0 1 s rfl fun a s => ?_
 refine sn 2 [2] s d rfl rfl fun a s => ?_
 refine w_litSlice (α := Record) (vs := [V35 r5 p6 k7]) (cs := (C35 r5 p6 k7)) (xs := ([r5] : List Record)) s d El27 rfl rfl rfl rfl rfl rfl ⟨⟨_, _, _, _, _, _, _, _, _, _, _, _, rfl, rfl, rfl, rfl, rfl, rfl, rfl, rfl, rfl, rfl, rfl, rfl, ⟨_, _, _, rfl, d.envAt 3 rfl⟩⟩, rfl⟩ rfl trivial rfl fun b38 a w s d => ?_
 obtain ⟨l40, h39, u⟩ := bt u
 refine w_appendR (α := Record) s d El27 1 rfl rfl rfl 1 rfl 0 rfl 0 rfl h39 rfl trivial ?_
 intro p41 k42 c43 a w s d
 obtain ⟨rv45, h44, u⟩ := bt u
 obtain ⟨Sv50, d⟩ := w_share (α := Record) d 1 rfl 0 rfl
 refine cR s (compose_order_ok h44 d.dom (d.envAt 0 rfl)) (do_call call62 rfl) rfl ?_
 rintro v54 Sv51 w a h52 ⟨p46, k47, c49, rfl, h55, h48⟩ s
 have d := (d.callN h52 h55).addE (e := RowA c49 rv45) h48
 refine rz0 1 s rfl fun a s => ?_
 refine sz0 6 s rfl fun a s => ?_
 refine wp_seq (sn0 2 s rfl fun a s => ?_)
 refine rA 4 29 [] s d rfl rfl rfl rfl rfl fun a s => ?_
 refine nl (cd s u rfl (fun u => ?_) fun u => ?_)
 ·refine sz0 3 s rfl fun a s => ?_
  obtain rfl := oi u
  have d := d.nilRow Record 35
  exact wp_ret (then_ret (ret3 s rfl (rv_tmp rfl) (rv_tmp rfl) (rv_tmp rfl) (d.ret ⟨none, 0, [], rfl, (d.outs [0] (by decide) rfl), (d.envAt 0 rfl)⟩)))
 refine sk (sz0 5 s rfl fun a s => ?_)
 obtain rfl := oi u
 exact wp_ret (ret3 s rfl (rv_tmp rfl) (rv_tmp rfl) (rv_tmp rfl) (d.ret ⟨p46, k47, c49, rfl, (d.outs [0] (by decide) rfl), (d.envAt 0 rfl)⟩))
theorem ref15_Insert_ok {w0 S0 p2 k3 p6 k7 l1 r5 r} (u : ref15_Insert l1 r5 = some r) (hS : Dm S0 w0) (h4 : (Sq p2 k3 l1).p S0 w0) (h8 : (Sq p6 k7 r5.Samples).p S0 w0) : Ck Tryz.prog 44 #[sl p2 k3 l1, V35 r5 p6 k7] w0 S0 [] compose_Insert_rd r := by
 refine en 38 func44 rfl hS rfl rfl rfl fun a s d => ?_
 have d := (d.addE h4).addE h8
 refine sr (wb (C35 r5 p6 k7) s d rfl fun b9 a w s d => ?_)
 refine rz0 3 s rfl fun a s => ?_
 refine wp_seq (wp_seq ?_)
 obtain ⟨rv11, h10, u⟩ := bt u
 obtain ⟨c26, hc26, u⟩ := bt u
 refine wp_only (fun a w => ∃ Sv27, Sl 38 [(0, sl p2 k3 l1), (3, pt b9), (20, .bool c26)] a ∧ Wd ⟨w0, S0, []⟩ Sv27 [.box b9 (C35 r5 p6 k7) 35] [Sq p2 k3 l1, Sq p6 k7 r5.Samples] w) ?_ ?_
 ·rcases Bool.eq_false_or_eq_true (!rv11) with h28 | h28
  ·have h29 := ite_t hc26 h28
   refine h_c [0] [] d rfl rfl (by kernel_rfl) rfl fun hC d => ?_
   refine gm s 0 rfl rfl rfl hC fun a s => ?_
   refine ho 1 rfl ?_
   refine cV s d (ref15_Valid_ok h10 d.bdom (d.bE 1 rfl)) (do_call call42 rfl) rfl fun a w s d => ?_
   refine h_n [0] [] d rfl rfl fun hC => ?_
   refine gn 2 [2, 3] [] s hC rfl rfl rfl fun a s => ?_
   have s := s.bT 12 rfl h28
   refine gn 7 [4, 5, 6, 7, 8, 9, 10] [] s hC rfl rfl rfl fun a s => ?_
   refine gT s 11 rfl rfl hC rfl rfl h29 fun a s => ?_
   refine h_done (by kernel_rfl) ?_
   exact ⟨S0, wj s d [0] [1, 0]⟩
  have h35 := ite_f hc26 h28
  obtain ⟨l37, h36, h35⟩ := bind_t h35
  obtain ⟨l44, h43, h35⟩ := bind_t h35
  obtain ⟨rv49, h48, h35⟩ := bind_t h35
  refine h_c [0] [] d rfl rfl (by kernel_rfl) rfl fun hC d => ?_
  refine gm s 0 rfl rfl rfl hC fun a s => ?_
  refine ho 1 rfl ?_
  refine cV s d (ref15_Valid_ok h10 d.bdom (d.bE 1 rfl)) (do_call call42 rfl) rfl fun a w s d => ?_
  refine h_n [0] [] d rfl rfl fun hC => ?_
  refine gn 2 [2, 3] [] s hC rfl rfl rfl fun a s => ?_
  have s := s.bF 12 rfl h28
  refine gn 2 [4, 6] [0] s hC rfl rfl rfl fun a s => ?_
  refine h_all (rs := [5, 7]) (by kernel_rfl) rfl ?_
  refine AllH.cons rfl ?_ ?_
  ·have d := d.nilRow Record 35
   refine w_appendE (α := Record) s d El27 0 rfl rfl rfl 0 rfl 2 rfl h36 rfl ⟨_, rfl, rfl⟩ ?_
   intro p38 k39 c40 a w s d
   refine h_n [1] [] d rfl rfl fun hC => ?_
   refine ho 7 rfl ?_
   refine w_litSlice (α := Record) (vs := [V35 r5 p6 k7]) (cs := (C35 r5 p6 k7)) (xs := ([r5] : List Record)) s d El27 rfl rfl rfl rfl rfl rfl ⟨⟨_, _, _, _, _, _, _, _, _, _, _, _, rfl, rfl, rfl, rfl, rfl, rfl, rfl, rfl, rfl, rfl, rfl, rfl, ⟨_, _, _, rfl, d.envAt 2 rfl⟩⟩, rfl⟩ rfl ⟨_, rfl, rfl⟩ rfl fun b42 a w s d => ?_
   refine h_n [2] [] d rfl rfl fun hC => ?_
   refine h_d [2, 0] [] [0] [] d rfl rfl rfl rfl fun hC => ?_
   refine ho 8 rfl ?_
   refine w_appendR (α := Record) s d El27 1 rfl rfl rfl 1 rfl 0 rfl 0 rfl h43 rfl ⟨_, rfl, rfl⟩ ?_
   intro p45 k46 c47 a w s d
   refine h_n [2, 0] [] d rfl rfl fun hC => ?_
   refine ho 9 rfl ?_
   refine st_callR s (ref15_fine_ok h48 d.bdom (d.bRow 1 rfl 0 rfl)) (do_call call67 rfl) ⟨_, rfl, rfl⟩ rfl rfl ?_
   rintro v58 Sv55 w a h56 rfl s
   have d := d.callB h56
   refine h_n [2, 0] [] d rfl rfl fun hC => ?_
   refine gt s 10 rfl ⟨_, rfl, rfl⟩ rfl hC (fun w hC => y_not rfl) fun a s => ?_
   refine gF s 11 rfl rfl hC rfl rfl h35 fun a s => ?_
   refine h_done (by kernel_rfl) ?_
   exact ⟨S0, wj s d [2] [5, 4]⟩
  refine AllH.cons rfl ?_ ?_
  ·refine w_litSlice (α := Record) (vs := [V35 r5 p6 k7]) (cs := (C35 r5 p6 k7)) (xs := ([r5] : List Record)) s d El27 rfl rfl rfl rfl rfl rfl ⟨⟨_, _, _, _, _, _, _, _, _, _, _, _, rfl, rfl, rfl, rfl, rfl, rfl, rfl, rfl, rfl, rfl, rfl, rfl, ⟨_, _, _, rfl, d.envAt 0 rfl⟩⟩, rfl⟩ rfl ⟨_, rfl, rfl⟩ rfl fun b42 a w s d => ?_
   refine h_n [1] [] d rfl rfl fun hC => ?_
   refine h_d [1, 0] [] [0] [] d rfl rfl rfl rfl fun hC => ?_
   refine ho 5 rfl ?_
   have d := d.nilRow Record 35
   refine w_appendE (α := Record) s d El27 0 rfl rfl rfl 0 rfl 3 rfl h36 rfl ⟨_, rfl, rfl⟩ ?_
   intro p38 k39 c40 a w s d
   refine h_n [2, 1] [] d rfl rfl fun hC => ?_
   refine ho 8 rfl ?_
   refine w_appendR (α := Record) s d El27 0 rfl rfl rfl 0 rfl 1 rfl 2 rfl h43 rfl ⟨_, rfl, rfl⟩ ?_
   intro p45 k46 c47 a w s d
   refine h_n [2, 1] [] d rfl rfl fun hC => ?_
   refine ho 9 rfl ?_
   refine st_callR s (ref15_fine_ok h48 d.bdom (d.bRow 0 rfl 0 rfl)) (do_call call67 rfl) ⟨_, rfl, rfl⟩ rfl rfl ?_
   rintro v63 Sv60 w a h61 rfl s
   have d := d.callB h61
   refine h_n [2, 1] [] d rfl rfl fun hC => ?_
   refine gt s 10 rfl ⟨_, rfl, rfl⟩ rfl hC (fun w hC => y_not rfl) fun a s => ?_
   refine gF s 11 rfl rfl hC rfl rfl h35 fun a s => ?_
   refine h_done (by kernel_rfl) ?_
   exact ⟨S0, wj s d [2] [5, 4]⟩
  exact AllH.nil
 rintro a w ⟨Sv27, s, d⟩
 refine tn (cd s u rfl (fun u => ?_) fun u => ?_)
 ·refine sz0 3 s rfl fun a s => ?_
  obtain rfl := oi u
  have d := d.nilRow Record 35
  exact wp_ret (then_ret (ret3 s rfl (rv_tmp rfl) (rv_tmp rfl) (rv_tmp rfl) (d.ret ⟨none, 0, [], rfl, (d.outs [0] (by decide) rfl), (d.envAt 0 rfl)⟩)))
 refine sk (sn0 1 s rfl fun a s => ?_)
 obtain ⟨rv98, h97, u⟩ := bt u
 refine cR s (ref15_order_ok h97 d.dom (d.envAt 0 rfl)) (do_call call66 rfl) rfl ?_
 rintro v106 Sv103 w a h104 ⟨p99, k100, c102, rfl, h107, h101⟩ s
 have d := (d.callN h104 h107).addE (e := RowA c102 rv98) h101
 refine rz0 1 s rfl fun a s => ?_
 refine wp_seq ?_
 obtain ⟨l109, h108, u⟩ := bt u
 obtain ⟨l116, h115, u⟩ := bt u
 obtain ⟨rv121, h120, u⟩ := bt u
 refine wp_only (fun a w => ∃ Sv126 c125 k123 p122, Sl 38 [(7, sl p99 k100 rv98), (8, sl p122 k123 rv121)] a ∧ Wd ⟨w0, S0, []⟩ Sv126 [.row p99 rv98.length k100 c102 35 12, .row p122 rv121.length k123 c125 35 12] [RowA c102 rv98, RowA c125 rv121] w) ?_ ?_
 ·refine h_c [0, 1] [] d rfl rfl (by kernel_rfl) rfl fun hC d => ?_
  refine gn 2 [0, 2] [1] s hC rfl rfl rfl fun a s => ?_
  refine h_all (rs := [1, 3]) (by kernel_rfl) rfl ?_
  refine AllH.cons rfl ?_ ?_
  ·have d := d.nilRow Record 35
   refine w_appendE (α := Record) s d El27 0 rfl rfl rfl 0 rfl 2 rfl h108 rfl trivial ?_
   intro p110 k111 c112 a w s d
   refine h_n [1, 2] [] d rfl rfl fun hC => ?_
   refine ho 3 rfl ?_
   refine w_litSlice (α := Record) (vs := [V35 r5 p6 k7]) (cs := (C35 r5 p6 k7)) (xs := ([r5] : List Record)) s d El27 rfl rfl rfl rfl rfl rfl ⟨⟨_, _, _, _, _, _, _, _, _, _, _, _, rfl, rfl, rfl, rfl, rfl, rfl, rfl, rfl, rfl, rfl, rfl, rfl, ⟨_, _, _, rfl, d.envAt 4 rfl⟩⟩, rfl⟩ rfl trivial rfl fun b114 a w s d => ?_
   refine h_n [2, 3] [] d rfl rfl fun hC => ?_
   refine h_d [2, 3, 0] [] [0, 1] [] d rfl rfl rfl rfl fun hC => ?_
   refine ho 4 rfl ?_
   refine w_appendR (α := Record) s d El27 1 rfl rfl rfl 1 rfl 0 rfl 0 rfl h115 rfl trivial ?_
   intro p117 k118 c119 a w s d
   refine h_n [2, 3, 0] [] d rfl rfl fun hC => ?_
   refine ho 5 rfl ?_
   obtain ⟨Sv127, d⟩ := w_share (α := Record) d 1 rfl 0 rfl
   refine cR s (ref15_order_ok h120 d.dom (d.envAt 0 rfl)) (do_call call66 rfl) rfl ?_
   rintro v131 Sv128 w a h129 ⟨p122, k123, c125, rfl, h132, h124⟩ s
   have d := (d.callN h129 h132).addE (e := RowA c125 rv121) h124
   refine h_n [2, 3, 1] [] d rfl rfl fun hC => ?_
   refine h_d [2, 3, 1, 0] [] [0, 1, 2] [] d rfl rfl rfl rfl fun hC => ?_
   refine gv s 6 rfl rfl hC (fun w hC => y_assign rfl) fun a s => ?_
   refine h_done (by kernel_rfl) ?_
   exact ⟨Sv128, c125, k123, p122, wj s d [2, 0] [6, 0]⟩
  refine AllH.cons rfl ?_ ?_
  ·refine w_litSlice (α := Record) (vs := [V35 r5 p6 k7]) (cs := (C35 r5 p6 k7)) (xs := ([r5] : List Record)) s d El27 rfl rfl rfl rfl rfl rfl ⟨⟨_, _, _, _, _, _, _, _, _, _, _, _, rfl, rfl, rfl, rfl, rfl, rfl, rfl, rfl, rfl, rfl, rfl, rfl, ⟨_, _, _, rfl, d.envAt 2 rfl⟩⟩, rfl⟩ rfl trivial rfl fun b114 a w s d => ?_
   refine h_n [1, 2] [] d rfl rfl fun hC => ?_
   refine h_d [1, 2, 0] [] [0, 1] [] d rfl rfl rfl rfl fun hC => ?_
   refine ho 1 rfl ?_
   have d := d.nilRow Record 35
   refine w_appendE (α := Record) s d El27 0 rfl rfl rfl 0 rfl 3 rfl h108 rfl trivial ?_
   intro p110 k111 c112 a w s d
   refine h_n [2, 3, 1] [] d rfl rfl fun hC => ?_
   refine ho 4 rfl ?_
   refine w_appendR (α := Record) s d El27 0 rfl rfl rfl 0 rfl 1 rfl 2 rfl h115 rfl trivial ?_
   intro p117 k118 c119 a w s d
   refine h_n [2, 3, 1] [] d rfl rfl fun hC => ?_
   refine ho 5 rfl ?_
   obtain ⟨Sv133, d⟩ := w_share (α := Record) d 0 rfl 0 rfl
   refine cR s (ref15_order_ok h120 d.dom (d.envAt 0 rfl)) (do_call call66 rfl) rfl ?_
   rintro v137 Sv134 w a h135 ⟨p122, k123, c125, rfl, h138, h124⟩ s
   have d := (d.callN h135 h138).addE (e := RowA c125 rv121) h124
   refine h_n [2, 3, 1] [] d rfl rfl fun hC => ?_
   refine h_d [2, 3, 1, 0] [] [0, 1, 2] [] d rfl rfl rfl rfl fun hC => ?_
   refine gv s 6 rfl rfl hC (fun w hC => y_assign rfl) fun a s => ?_
   refine h_done (by kernel_rfl) ?_
   exact ⟨Sv134, c125, k123, p122, wj s d [2, 0] [6, 0]⟩
  exact AllH.nil
 rintro a w ⟨Sv126, c125, k123, p122, s, d⟩
 refine tn (wp_seq (sz0 3 s rfl fun a s => ?_))
 refine cd s u rfl (fun u => ?_) fun u => ?_
 ·refine sz0 3 s rfl fun a s => ?_
  obtain rfl := oi u
  have d := d.nilRow Record 35
  exact wp_ret (then_ret (ret3 s rfl (rv_tmp rfl) (rv_tmp rfl) (rv_tmp rfl) (d.ret ⟨none, 0, [], rfl, (d.outs [0] (by decide) rfl), (d.envAt 0 rfl)⟩)))
 refine sk (sz0 9 s rfl fun a s => ?_)
 obtain rfl := oi u
 exact wp_ret (ret3 s rfl (rv_tmp rfl) (rv_tmp rfl) (rv_tmp rfl) (d.ret ⟨p122, k123, c125, rfl, (d.outs [1] (by decide) rfl), (d.envAt 1 rfl)⟩))
theorem slices_Grow_Lapi_Record_api_Record_n_ok {w0 S0 n1 r} (u : slices_Grow_Lapi_Record_api_Record_n n1 = some r) (hS : Dm S0 w0) : Ck Tryz.prog 96 #[.slice none 0 0, iv n1] w0 S0 [] law15_two_rd r := by
 refine en 27 func96 rfl hS rfl rfl rfl fun a s d => ?_
 refine sz0 1 s rfl fun a s => ?_
 refine wp_seq (sz0 2 s rfl fun a s => ?_)
 refine cd s u rfl (fun u => ?_) fun u => ?_
 ·cases u
 refine sk (wp_seq (sn0 2 s rfl fun a s => ?_))
 refine sv s (y_cap runUnderlying27 rfl) rfl fun a s => ?_
 refine rn0 4 s rfl fun a s => ?_
 obtain ⟨n5, h4, u⟩ := bt u
 refine sv s (y_assignI rfl h4) rfl fun a s => ?_
 refine nl (sz0 2 s rfl fun a s => ?_)
 refine wp_join (fun a w => ∃ (sv23 : (List Record)) (c19 p20 k21 Sv22 : _), slices_Grow_Lapi_Record_api_Record_n_j1 sv23 = some r ∧ Sl 27 [(0, sl p20 k21 sv23)] a ∧ Wd ⟨w0, S0, []⟩ Sv22 [.row p20 sv23.length k21 c19 35 12] [RowA c19 sv23] w) ?_ ?_
 ·refine cd s u rfl (fun u => ?_) fun u => ?_
  ·refine wp_region_lit (rn0 2 s rfl fun a s => ?_)
   refine sv s (y_cap runUnderlying27 rfl) rfl fun a s => ?_
   obtain ⟨l28, h25, u⟩ := bt u
   obtain ⟨h26, h27⟩ := sub_nil 12 h25
   subst h26
   refine sv s (y_slc runUnderlying27 sizeOf35 rfl (by exact rfl) ⟨_, rfl⟩ h27) rfl fun a s => ?_
   refine mv s rfl rfl fun a s => ?_
   obtain ⟨l30, h29, u⟩ := bt u
   refine w_appendMk (α := Record) (z0 := ((⟨(⟨ByteArray.empty, ByteArray.empty, ByteArray.empty, ByteArray.empty⟩ : SourceID), 0, 0, (⟨0, 0⟩ : Rate), 0, 0, 0, ([] : List Int)⟩ : Record) : Record)) s d El27 ⟨_, _, _, _, _, _, _, _, _, _, _, _, rfl, rfl, rfl, rfl, rfl, rfl, rfl, rfl, rfl, rfl, rfl, rfl, ⟨none, 0, 0, rfl, nil_sl⟩⟩ underlying3 rfl rfl h29 rfl rfl trivial ?_
   intro p31 k32 c33 a w s d
   refine rn0 2 s rfl fun a s => ?_
   obtain ⟨l36, h34, u⟩ := bt u
   obtain ⟨d, h35⟩ := w_cut d 0 rfl 0 rfl h34
   refine sv s (y_slc runUnderlying27 sizeOf35 rfl (by exact rfl) ⟨_, rfl⟩ h35) rfl fun a s => ?_
   refine rz0 1 s rfl fun a s => ?_
   exact ⟨l36, (c33.take (l36.length * 12)), p31, k32, S0, u, wj s d [0] [0]⟩
  refine sk ?_
  have d := d.nilRow Record 35
  exact ⟨([] : List Record), [], none, 0, S0, u, wj s d [0] [0]⟩
 rintro a w ⟨sv23, c19, p20, k21, Sv22, u, s, d⟩
 refine tn (sz0 2 s rfl fun a s => ?_)
 obtain rfl := oi u
 exact q1 s rfl (d.ret ⟨p20, k21, c19, rfl, (d.outs [0] (by decide) rfl), (d.envAt 0 rfl)⟩)
theorem slices_Concat_Lapi_Record_api_Record_ok {w0 S0 p2 k3 slices1 r} (u : slices_Concat_Lapi_Record_api_Record slices1 = some r) (hS : Dm S0 w0) (h4 : (Sq p2 k3 slices1).p S0 w0) : Ck Tryz.prog 63 #[sl p2 k3 slices1] w0 S0 [] law15_two_rd r := by
 refine en 36 func63 rfl hS rfl rfl rfl fun a s d => ?_
 have d := d.addE h4
 refine sz0 1 s rfl fun a s => ?_
 refine sz0 1 s rfl fun a s => ?_
 refine wp_seq (sz0 3 s rfl fun a s => ?_)
 obtain ⟨e74, h265, u⟩ := bt u
 refine wp_join (fun a w => ∃ Sv75, Sl 36 [(0, sl p2 k3 slices1), (3, iv e74)] a ∧ Wd ⟨w0, S0, []⟩ Sv75 [] [Sq p2 k3 slices1] w) ?_ ?_
 ·refine wp_block (wp_while (fun sv5 a w => ∃ Sv49, Sl 36 [(0, sl p2 k3 slices1), (3, iv sv5.1), (9, sl p2 k3 slices1), (10, iv (slices1.length : Int)), (11, iv sv5.2)] a ∧ Wd ⟨w0, S0, []⟩ Sv49 [] [Sq p2 k3 slices1] w) (0, 0) h265 ⟨S0, wj s d [] [0]⟩ ?_)
  clear h265
  repeat clear u
  rintro sv5 a w tv72 ⟨Sv49, s, d⟩ u hd71
  refine sz0 1 s rfl fun a s => ?_
  refine wp_seq (cd s u rfl (fun u => ?_) fun u => ?_)
  ·refine sk (wp_seq (wp_block (sr ?_)))
   obtain ⟨x100, h98, u⟩ := bt u
   obtain ⟨b106, o107, q104, c105, h108, h101, h102, h103, h99⟩ := d.elemV 0 rfl h98
   have hsv109 := s
   have hwv110 := d
   subst h108
   have s := hsv109
   have d := hwv110
   obtain ⟨_, rfl, ⟨p111, n112, k113, rfl, h114⟩⟩ := h99
   obtain rfl := h114.1
   have d := (d.addE (e := SlA p111 _ k113 x100) h114).addE h103
   refine sv s (y_indexAt runUnderlying70 sizeOf27 rfl rfl h101.1 h101.2 h102) rfl fun a s => ?_
   refine sv s (y_loadE1 (j := 0) (d.ceAt 0 rfl) rfl isAgg27 rfl) rfl fun a s => ?_
   refine rz0 1 s rfl fun a s => ?_
   refine sn0 4 s rfl fun a s => ?_
   obtain ⟨size116, h115, u⟩ := bt u
   refine sv s (y_assignI rfl h115) rfl fun a s => ?_
   refine nl (sz0 2 s rfl fun a s => ?_)
   refine cd s u rfl (fun u => ?_) fun u => ?_
   ·cases u
   refine wp_skip (blk_normal (tn (wp_region_lit (rz0 2 s rfl fun a s => ?_))))
   exact ⟨_, io u, Sv49, wj s d [] [2]⟩
  refine wp_exit (then_exit (then_exit (blk_exit ?_)))
  obtain rfl := oi u
  have h119 := hd71 _ rfl
  subst h119
  exact tn ⟨Sv49, wj s d [] [0]⟩
 rintro a w ⟨Sv75, s, d⟩
 refine tn (sn0 1 s rfl fun a s => ?_)
 obtain ⟨rv121, h120, u⟩ := bt u
 refine cR s (slices_Grow_Lapi_Record_api_Record_n_ok h120 d.dom) (do_call call96 rfl) rfl ?_
 rintro v129 Sv126 w a h127 ⟨p122, k123, c125, rfl, h130, h124⟩ s
 have d := (d.callN h127 h130).addE (e := RowA c125 rv121) h124
 refine rz0 1 s rfl fun a s => ?_
 refine wp_seq (sz0 3 s rfl fun a s => ?_)
 obtain ⟨e212, h264, u⟩ := bt u
 refine wp_join (fun a w => ∃ c213 p214 k215 Sv216, Sl 36 [(6, sl p214 k215 e212)] a ∧ Wd ⟨w0, S0, []⟩ Sv216 [.row p214 e212.length k215 c213 35 12] [RowA c213 e212] w) ?_ ?_
 ·refine wp_block (wp_while (fun sv131 a w => ∃ c182 p183 k184 Sv185, Sl 36 [(6, sl p183 k184 sv131.1), (25, sl p2 k3 slices1), (26, iv (slices1.length : Int)), (27, iv sv131.2)] a ∧ Wd ⟨w0, S0, []⟩ Sv185 [.row p183 sv131.1.length k184 c182 35 12] [Sq p2 k3 slices1, RowA c182 sv131.1] w) (rv121, 0) h264 ⟨c125, p122, k123, Sv126, wj s d [0] [1, 0]⟩ ?_)
  clear h264
  repeat clear u
  rintro sv131 a w tv210 ⟨c182, p183, k184, Sv185, s, d⟩ u hd209
  refine sz0 1 s rfl fun a s => ?_
  refine wp_seq (cd s u rfl (fun u => ?_) fun u => ?_)
  ·refine sk (wp_seq (wp_block (sr ?_)))
   obtain ⟨x243, h241, u⟩ := bt u
   obtain ⟨b249, o250, q247, c248, h251, h244, h245, h246, h242⟩ := d.elemV 0 rfl h241
   have hsv252 := s
   have hwv253 := d
   subst h251
   have s := hsv252
   have d := hwv253
   obtain ⟨_, rfl, ⟨p254, n255, k256, rfl, h257⟩⟩ := h242
   obtain rfl := h257.1
   have d := (d.addE (e := SlA p254 _ k256 x243) h257).addE h246
   refine sv s (y_indexAt runUnderlying70 sizeOf27 rfl rfl h244.1 h244.2 h245) rfl fun a s => ?_
   refine sv s (y_loadE1 (j := 0) (d.ceAt 0 rfl) rfl isAgg27 rfl) rfl fun a s => ?_
   refine rz0 1 s rfl fun a s => ?_
   refine wp_region_lit (rn0 2 s rfl fun a s => ?_)
   obtain ⟨l259, h258, u⟩ := bt u
   refine w_appendE (α := Record) s d El27 0 rfl rfl rfl 3 rfl 1 rfl h258 rfl trivial ?_
   intro p260 k261 c262 a w s d
   refine av s rfl rfl fun a s => ?_
   refine wpList_nil ?_
   refine blk_normal (tn (wp_region_lit (rz0 2 s rfl fun a s => ?_)))
   exact ⟨_, io u, c262, p260, k261, Sv185, wj s d [0] [3, 0]⟩
  refine wp_exit (then_exit (then_exit (blk_exit ?_)))
  obtain rfl := oi u
  have h263 := hd209 _ rfl
  subst h263
  exact tn ⟨c182, p183, k184, Sv185, wj s d [0] [1]⟩
 rintro a w ⟨c213, p214, k215, Sv216, s, d⟩
 refine tn (sz0 2 s rfl fun a s => ?_)
 obtain rfl := oi u
 exact q1 s rfl (d.ret ⟨p214, k215, c213, rfl, (d.outs [0] (by decide) rfl), (d.envAt 0 rfl)⟩)
abbrev compose_samples_rd (w0 : World) (X : List Nat) (r : (Mo Compose_sample)) : Rd := fun S w v => ∃ b_0, v = .map (some b_0) ∧ Outs X w0 S w [moR Tryz.prog 3 b_0 r]
theorem compose_samples_ok {w0 S0 p2 k3 l1 r} (u : compose_samples l1 = some r) (hS : Dm S0 w0) (h4 : (Sq p2 k3 l1).p S0 w0) : Ck Tryz.prog 64 #[sl p2 k3 l1] w0 S0 [] compose_samples_rd r := by
 refine en 45 func64 rfl hS rfl rfl rfl fun a s d => ?_
 have d := d.addE h4
 refine sz0 1 s rfl fun a s => ?_
 refine sr (w_makeMapO (α := Compose_sample) (kt := 3) s d rfl trivial ?_)
 intro b5 a w s d
 refine rz0 1 s rfl fun a s => ?_
 refine wp_seq (sz0 3 s rfl fun a s => ?_)
 obtain ⟨e558, h1023, u⟩ := bt u
 refine wp_join (fun a w => ∃ Sv559, Sl 45 [(3, .map (some b5))] a ∧ Wd ⟨w0, S0, []⟩ Sv559 [moR Tryz.prog 3 b5 e558] [] w) ?_ ?_
 ·refine wp_block (wp_while (fun sv6 a w => ∃ Sv372, Sl 45 [(3, .map (some b5)), (10, sl p2 k3 l1), (11, iv (l1.length : Int)), (12, iv sv6.2)] a ∧ Wd ⟨w0, S0, []⟩ Sv372 [moR Tryz.prog 3 b5 sv6.1] [Sq p2 k3 l1] w) ((⟨0, []⟩ : Mo Compose_sample), 0) h1023 ⟨S0, wj s d [0] [0]⟩ ?_)
  clear h1023
  repeat clear u
  rintro sv6 a w tv556 ⟨Sv372, s, d⟩ u hd555
  refine sz0 1 s rfl fun a s => ?_
  refine wp_seq (cd s u rfl (fun u => ?_) fun u => ?_)
  ·refine sk (wp_seq (wp_block (sr ?_)))
   obtain ⟨x745, h743, u⟩ := bt u
   obtain ⟨b751, o752, q749, c750, h753, h746, h747, h748, h744⟩ := d.elemV 0 rfl h743
   have hsv754 := s
   have hwv755 := d
   subst h753
   have s := hsv754
   have d := hwv755
   obtain ⟨_, _, _, _, _, _, _, _, _, _, _, _, rfl, rfl, rfl, rfl, rfl, rfl, rfl, rfl, rfl, rfl, rfl, rfl, ⟨p756, n757, k758, rfl, h759⟩⟩ := h744
   obtain rfl := h759.1
   have d := (d.addE (e := SlA p756 _ k758 x745.Samples) h759).addE h748
   refine sv s (y_indexAt runUnderlying27 sizeOf35 rfl rfl h746.1 h746.2 h747) rfl fun a s => ?_
   refine sv s (y_loadEA (j := 0) (d.ceAt 0 rfl) rfl isAgg35 sizeOf35 rfl rfl) rfl fun a s => ?_
   refine wa Z4 s d zeroValue35 fun b760 a w s d => ?_
   refine ws (C35 x745 p756 k758) s d 0 rfl rfl rfl sizeOf35 fun a w s d => ?_
   refine nl (sn 1 [0] s d rfl rfl fun a s => ?_)
   obtain ⟨rv762, h761, u⟩ := bt u
   refine cR s (compose_times_ok h761 d.dom (d.envAt 1 rfl)) (do_call call97 rfl) rfl ?_
   rintro v770 Sv767 w a h768 ⟨p763, k764, c766, rfl, h771, h765⟩ s
   have d := (d.callN h768 h771).addE (e := RowA c766 rv762) h765
   refine rz0 1 s rfl fun a s => ?_
   refine sz 4 [1] s d rfl rfl fun a s => ?_
   obtain ⟨e922, h1021, u⟩ := bt u
   refine wp_join (fun a w => ∃ Sv923, Sl 45 [(3, .map (some b5)), (10, sl (some ⟨b751, o752, none⟩) k3 l1), (11, iv (l1.length : Int)), (12, iv sv6.2)] a ∧ Wd ⟨w0, S0, []⟩ Sv923 [moR Tryz.prog 3 b5 e922] [Sq (some ⟨b751, o752, none⟩) k3 l1] w) ?_ ?_
   ·refine wp_block (wp_while (fun sv772 a w => ∃ Sv870, Sl 45 [(3, .map (some b5)), (6, sl p763 k764 rv762), (10, sl (some ⟨b751, o752, none⟩) k3 l1), (11, iv (l1.length : Int)), (12, iv sv6.2), (19, sl p756 k758 x745.Samples), (20, iv (x745.Samples.length : Int)), (21, iv sv772.2)] a ∧ Wd ⟨w0, S0, []⟩ Sv870 [moR Tryz.prog 3 b5 sv772.1, .row p763 rv762.length k764 c766 3 1] [Sq (some ⟨b751, o752, none⟩) k3 l1, Sq p756 k758 x745.Samples, RowA c766 rv762] w) (sv6.1, 0) h1021 ⟨Sv767, wj s d [2, 0] [3, 2, 0]⟩ ?_)
    clear h1021
    repeat clear u
    rintro sv772 a w tv920 ⟨Sv870, s, d⟩ u hd919
    refine sz0 1 s rfl fun a s => ?_
    refine wp_seq (cd s u rfl (fun u => ?_) fun u => ?_)
    ·refine sk (wp_seq (wp_block (sn0 1 s rfl fun a s => ?_)))
     obtain ⟨x975, h973, u⟩ := bt u
     obtain ⟨b981, o982, q979, c980, h983, h976, h977, h978, h974⟩ := d.elemV 1 rfl h973
     have hsv984 := s
     have hwv985 := d
     subst h983
     have s := hsv984
     have d := hwv985
     obtain ⟨_, rfl, rfl⟩ := h974
     have d := d.addE h978
     refine sv s (y_indexAt runUnderlying22 sizeOf3 rfl rfl h976.1 h976.2 h977) rfl fun a s => ?_
     refine sv s (y_loadE1 (j := 0) (d.ceAt 0 rfl) rfl isAgg3 rfl) rfl fun a s => ?_
     refine rz0 2 s rfl fun a s => ?_
     obtain ⟨x988, h986, u⟩ := bt u
     obtain ⟨b995, q992, c993, h996, h989, h990, h994, h987⟩ := d.elemRV (α := Int) 1 rfl 3 rfl h986
     have hsv997 := s
     have hwv998 := d
     subst h996
     have s := hsv997
     have d := hwv998
     obtain ⟨_, rfl, rfl⟩ := h987
     obtain ⟨x1001, h999, u⟩ := bt u
     obtain ⟨q1005, c1006, h1002, h1003, h1007, h1000⟩ := d.elemRK (α := Int) 1 rfl 3 rfl h999
     obtain ⟨_, rfl, rfl⟩ := h1000
     obtain ⟨x1010, h1008, u⟩ := bt u
     obtain ⟨q1014, c1015, h1011, h1012, h1016, h1009⟩ := d.elemRK (α := Int) 1 rfl 3 rfl h1008
     obtain ⟨_, rfl, rfl⟩ := h1009
     obtain ⟨m1018, h1017, u⟩ := bt u
     refine wp_only (fun a w => ∃ Sv1019, Sl 45 [(3, .map (some b5)), (6, sl (ad b995) k764 rv762), (10, sl (some ⟨b751, o752, none⟩) k3 l1), (11, iv (l1.length : Int)), (12, iv sv6.2), (19, sl (some ⟨b981, o982, none⟩) k758 x745.Samples), (20, iv (x745.Samples.length : Int)), (21, iv sv772.2)] a ∧ Wd ⟨w0, S0, []⟩ Sv1019 [moR Tryz.prog 3 b5 m1018, .row (ad b995) rv762.length k764 c766 3 1] [Sq (some ⟨b751, o752, none⟩) k3 l1, Sq (some ⟨b981, o982, none⟩) k758 x745.Samples, RowA c766 rv762] w) ?_ ?_
     ·refine h_c [1] [0] d rfl rfl (by kernel_rfl) rfl fun hC d => ?_
      refine gn 3 [0, 1, 2] [] s hC rfl rfl rfl fun a s => ?_
      refine gx s 3 rfl trivial rfl hC runUnderlying22 sizeOf3 rfl rfl h989 h990 fun a s => ?_
      refine gv s 4 rfl rfl hC (fun w hC => y_loadQ1 (j := 0) (hC.ownAt 0 rfl) rfl isAgg3 h994 rfl) fun a s => ?_
      refine gn 2 [5, 6] [] s hC rfl rfl rfl fun a s => ?_
      refine gx s 7 rfl trivial rfl hC runUnderlying22 sizeOf3 rfl rfl h1002 h1003 fun a s => ?_
      refine gv s 8 rfl rfl hC (fun w hC => y_loadQ1 (j := 0) (hC.ownAt 0 rfl) rfl isAgg3 h1007 rfl) fun a s => ?_
      refine gn 3 [9, 10, 11] [] s hC rfl rfl rfl fun a s => ?_
      refine gx s 12 rfl trivial rfl hC runUnderlying22 sizeOf3 rfl rfl h1011 h1012 fun a s => ?_
      refine gv s 13 rfl rfl hC (fun w hC => y_loadQ1 (j := 0) (hC.ownAt 0 rfl) rfl isAgg3 h1016 rfl) fun a s => ?_
      refine gm s 14 rfl rfl rfl hC fun a s => ?_
      refine gv s 15 rfl rfl hC (fun w hC => y_build (vs := [(0, iv x1001), (1, iv x1010), (2, iv x975)]) Bld95 rfl rfl) fun a s => ?_
      refine ho 16 rfl ?_
      refine w_updO (α := Compose_sample) (v := (⟨x1001, x1010, x975⟩ : Compose_sample)) (et := 95) s d 0 rfl underlying92 underlying3 rfl rfl rfl rfl h1017 trivial ?_
      intro a w s d
      refine h_n [1] [0] d rfl rfl fun hC => ?_
      refine h_done (by kernel_rfl) ?_
      exact ⟨Sv870, wj s d [0, 1] [1, 2, 3]⟩
     rintro a w ⟨Sv1019, s, d⟩
     refine blk_normal (tn (wp_region_lit (rz0 2 s rfl fun a s => ?_)))
     exact ⟨_, io u, Sv1019, wj s d [0, 1] [0, 1, 2]⟩
    refine wp_exit (then_exit (then_exit (blk_exit ?_)))
    obtain rfl := oi u
    have h1020 := hd919 _ rfl
    subst h1020
    exact tn ⟨Sv870, wj s d [0] [0]⟩
   rintro a w ⟨Sv923, s, d⟩
   refine blk_normal (tn (wp_region_lit (rz0 2 s rfl fun a s => ?_)))
   exact ⟨_, io u, Sv923, wj s d [0] [0]⟩
  refine wp_exit (then_exit (then_exit (blk_exit ?_)))
  obtain rfl := oi u
  have h1022 := hd555 _ rfl
  subst h1022
  exact tn ⟨Sv372, wj s d [0] []⟩
 rintro a w ⟨Sv559, s, d⟩
 refine tn (sz0 2 s rfl fun a s => ?_)
 obtain rfl := oi u
 exact q1 s rfl (d.ret ⟨b5, rfl, (d.outs [0] (by decide) rfl)⟩)
theorem span_Minus_ok {w0 S0 p2 k3 p6 k7 a1 b5 r} (u : span_Minus a1 b5 = some r) (hS : Dm S0 w0) (h4 : (Sq p2 k3 a1).p S0 w0) (h8 : (Sq p6 k7 b5).p S0 w0) : Ck Tryz.prog 65 #[sl p2 k3 a1, sl p6 k7 b5] w0 S0 [] slices_Clone_Lapi_Span_api_Span_rd r := by
 refine en 68 func65 rfl hS rfl rfl rfl fun a s d => ?_
 have d := (d.addE h4).addE h8
 refine sz0 1 s rfl fun a s => ?_
 refine sn0 1 s rfl fun a s => ?_
 obtain ⟨rv10, h9, u⟩ := bt u
 refine cR s (span_Normal_ok h9 d.dom (d.envAt 0 rfl)) (do_call call60 rfl) rfl ?_
 rintro v18 Sv15 w a h16 ⟨p11, k12, c14, rfl, h19, h13⟩ s
 have d := (d.callN h16 h19).addE (e := RowA c14 rv10) h13
 refine rz0 1 s rfl fun a s => ?_
 refine sz0 1 s rfl fun a s => ?_
 refine wp_seq (sn0 1 s rfl fun a s => ?_)
 obtain ⟨rv21, h20, u⟩ := bt u
 refine cR s (span_Normal_ok h20 d.dom (d.envAt 2 rfl)) (do_call call60 rfl) rfl ?_
 rintro v29 Sv26 w a h27 ⟨p22, k23, c25, rfl, h30, h24⟩ s
 have d := (d.callN h27 h30).addE (e := RowA c25 rv21) h24
 refine rz0 2 s rfl fun a s => ?_
 obtain ⟨e520, h933, u⟩ := bt u
 refine wp_join (fun a w => ∃ c521 p522 k523 Sv524, Sl 68 [(5, sl p522 k523 e520)] a ∧ Wd ⟨w0, S0, []⟩ Sv524 [.row p522 e520.length k523 c521 45 2] [RowA c521 e520] w) ?_ ?_
 ·refine wp_block ?_
  have d := d.nilRow Span 45
  refine wp_while (fun sv31 a w => ∃ c354 p355 k356 Sv357, Sl 68 [(1, sl p11 k12 rv10), (5, sl p355 k356 sv31.1), (14, sl p22 k23 rv21), (15, iv (rv21.length : Int)), (16, iv sv31.2)] a ∧ Wd ⟨w0, S0, []⟩ Sv357 [.row p11 rv10.length k12 c14 45 2, .row p355 sv31.1.length k356 c354 45 2, .row p22 rv21.length k23 c25 45 2] [RowA c14 rv10, RowA c354 sv31.1, RowA c25 rv21] w) (([] : List Span), 0) h933 ⟨[], none, 0, Sv26, wj s d [2, 0, 1] [2, 0, 1]⟩ ?_
  clear h933
  repeat clear u
  rintro sv31 a w tv518 ⟨c354, p355, k356, Sv357, s, d⟩ u hd517
  refine sz0 1 s rfl fun a s => ?_
  refine wp_seq (cd s u rfl (fun u => ?_) fun u => ?_)
  ·refine sk (wp_seq (wp_block (sr ?_)))
   obtain ⟨x687, h685, u⟩ := bt u
   obtain ⟨b694, q691, c692, h695, h688, h689, h693, h686⟩ := d.elemRV (α := Span) 2 rfl 2 rfl h685
   have hsv696 := s
   have hwv697 := d
   subst h695
   have s := hsv696
   have d := hwv697
   obtain ⟨_, _, rfl, rfl, rfl⟩ := h686
   refine sv s (y_indexAt runUnderlying52 sizeOf45 rfl rfl h688.1 h688.2 h689) rfl fun a s => ?_
   refine sv s (y_loadQA (j := 0) (d.ownAt 2 rfl) rfl isAgg45 sizeOf45 h693 rfl rfl) rfl fun a s => ?_
   refine wa [iv 0, iv 0] s d zeroValue45 fun b698 a w s d => ?_
   refine ws (C45 x687) s d 0 rfl rfl rfl sizeOf45 fun a w s d => ?_
   refine nl (sz 3 [0] s d rfl rfl fun a s => ?_)
   refine wp_seq (sz0 3 s rfl fun a s => ?_)
   obtain ⟨e825, h931, u⟩ := bt u
   refine wp_join (fun a w => ∃ c826 p827 k828 Sv829, Sl 68 [(1, sl p11 k12 rv10), (5, sl p827 k828 e825.1), (7, pt b698), (8, iv e825.2), (14, sl (ad b694) k23 rv21), (15, iv (rv21.length : Int)), (16, iv sv31.2)] a ∧ Wd ⟨w0, S0, []⟩ Sv829 [.box b698 (C45 x687) 45, .row p11 rv10.length k12 c14 45 2, .row p827 e825.1.length k828 c826 45 2, .row (ad b694) rv21.length k23 c25 45 2] [RowA c14 rv10, RowA c826 e825.1, RowA c25 rv21] w) ?_ ?_
   ·refine wp_block (wp_while (fun sv699 a w => ∃ c780 p781 k782 Sv783, Sl 68 [(1, sl p11 k12 rv10), (5, sl p781 k782 sv699.1), (7, pt b698), (8, iv sv699.2.1), (14, sl (ad b694) k23 rv21), (15, iv (rv21.length : Int)), (16, iv sv31.2), (22, sl p11 k12 rv10), (23, iv (rv10.length : Int)), (24, iv sv699.2.2)] a ∧ Wd ⟨w0, S0, []⟩ Sv783 [.box b698 (C45 x687) 45, .row p11 rv10.length k12 c14 45 2, .row p781 sv699.1.length k782 c780 45 2, .row (ad b694) rv21.length k23 c25 45 2] [RowA c14 rv10, RowA c780 sv699.1, RowA c25 rv21] w) (sv31.1, x687.From, 0) h931 ⟨c354, p355, k356, Sv357, wj s d [0, 1, 2, 3] [0, 1, 2]⟩ ?_)
    clear h931
    repeat clear u
    rintro sv699 a w tv823 ⟨c780, p781, k782, Sv783, s, d⟩ u hd822
    refine sz0 1 s rfl fun a s => ?_
    refine wp_seq (cd s u rfl (fun u => ?_) fun u => ?_)
    ·refine sk (wp_seq (wp_join (fun a w => ∃ (out867 : (List Span)) (atv868 : Int) (c863 p864 k865 Sv866 : _), span_Minus_j1 sv699 out867 atv868 = some tv823 ∧ Sl 68 [(1, sl p11 k12 rv10), (5, sl p864 k865 out867), (7, pt b698), (8, iv atv868), (14, sl (ad b694) k23 rv21), (15, iv (rv21.length : Int)), (16, iv sv31.2), (22, sl p11 k12 rv10), (23, iv (rv10.length : Int)), (24, iv sv699.2.2)] a ∧ Wd ⟨w0, S0, []⟩ Sv866 [.box b698 (C45 x687) 45, .row p11 rv10.length k12 c14 45 2, .row p864 out867.length k865 c863 45 2, .row (ad b694) rv21.length k23 c25 45 2] [RowA c14 rv10, RowA c863 out867, RowA c25 rv21] w) ?_ ?_))
     ·refine wp_block (sr ?_)
      obtain ⟨x871, h869, u⟩ := bt u
      obtain ⟨b878, q875, c876, h879, h872, h873, h877, h870⟩ := d.elemRV (α := Span) 1 rfl 0 rfl h869
      have hsv880 := s
      have hwv881 := d
      subst h879
      have s := hsv880
      have d := hwv881
      obtain ⟨_, _, rfl, rfl, rfl⟩ := h870
      refine sv s (y_indexAt runUnderlying52 sizeOf45 rfl rfl h872.1 h872.2 h873) rfl fun a s => ?_
      refine sv s (y_loadQA (j := 0) (d.ownAt 1 rfl) rfl isAgg45 sizeOf45 h877 rfl rfl) rfl fun a s => ?_
      refine wa [iv 0, iv 0] s d zeroValue45 fun b882 a w s d => ?_
      refine ws (C45 x871) s d 0 rfl rfl rfl sizeOf45 fun a w s d => ?_
      refine nl (wp_seq (sn 5 [0] s d rfl rfl fun a s => ?_))
      refine rO 6 32 [0, 1] s d rfl rfl rfl rfl rfl fun a s => ?_
      refine nl (cd s u rfl (fun u => ?_) fun u => ?_)
      ·exact wp_exit (then_exit (blk_exit (tn ⟨sv699.1, sv699.2.1, c780, p781, k782, Sv783, u, wj s d [1, 2, 3, 4] [0, 1, 2]⟩)))
      refine sk (wp_seq (sz 4 [0] s d rfl rfl fun a s => ?_))
      refine wp_join (fun a w => ∃ (out898 : (List Span)) (c894 p895 k896 Sv897 : _), span_Minus_j2 sv699 x871 out898 = some tv823 ∧ Sl 68 [(1, sl (ad b878) k12 rv10), (5, sl p895 k896 out898), (7, pt b698), (8, iv sv699.2.1), (10, pt b882), (14, sl (ad b694) k23 rv21), (15, iv (rv21.length : Int)), (16, iv sv31.2), (22, sl (ad b878) k12 rv10), (23, iv (rv10.length : Int)), (24, iv sv699.2.2)] a ∧ Wd ⟨w0, S0, []⟩ Sv897 [.box b698 (C45 x687) 45, .box b882 (C45 x871) 45, .row (ad b878) rv10.length k12 c14 45 2, .row p895 out898.length k896 c894 45 2, .row (ad b694) rv21.length k23 c25 45 2] [RowA c14 rv10, RowA c894 out898, RowA c25 rv21] w) ?_ ?_
      ·refine cd s u rfl (fun u => ?_) fun u => ?_
       ·refine wp_region_lit (rn 4 [0] s d rfl rfl fun a s => ?_)
        refine sv s (y_build (vs := [(0, iv sv699.2.1), (1, iv x871.From)]) Bld45 rfl rfl) rfl fun a s => ?_
        refine w_litSlice (α := Span) (vs := [.agg #[iv sv699.2.1, iv x871.From]]) (cs := [iv sv699.2.1, iv x871.From]) (xs := ([(⟨sv699.2.1, x871.From⟩ : Span)] : List Span)) s d El52 rfl rfl rfl rfl rfl rfl ⟨⟨_, _, rfl, rfl, rfl⟩, rfl⟩ rfl trivial rfl fun b903 a w s d => ?_
        obtain ⟨l905, h904, u⟩ := bt u
        refine w_appendR (α := Span) s d El52 4 rfl rfl rfl 2 rfl 0 rfl 0 rfl h904 rfl trivial ?_
        intro p906 k907 c908 a w s d
        refine rz0 1 s rfl fun a s => ?_
        exact ⟨l905, c908, p906, k907, Sv783, u, wj s d [2, 1, 3, 4, 5] [2, 0, 4]⟩
       exact sk ⟨sv699.1, c780, p781, k782, Sv783, u, wj s d [1, 0, 2, 3, 4] [0, 1, 2]⟩
      rintro a w ⟨out898, c894, p895, k896, Sv897, u, s, d⟩
      refine tn (wp_region_lit (rn 4 [1] s d rfl rfl fun a s => ?_))
      obtain ⟨atv900, h899, u⟩ := bt u
      refine sv s (y_assignI rfl h899) rfl fun a s => ?_
      refine wpList_nil ?_
      exact blk_normal (tn ⟨out898, atv900, c894, p895, k896, Sv897, u, wj s d [0, 2, 3, 4] [0, 1, 2]⟩)
     rintro a w ⟨out867, atv868, c863, p864, k865, Sv866, u, s, d⟩
     refine tn (wp_region_lit (rz0 2 s rfl fun a s => ?_))
     exact ⟨_, io u, c863, p864, k865, Sv866, wj s d [0, 1, 2, 3] [0, 1, 2]⟩
    refine wp_exit (then_exit (then_exit (blk_exit ?_)))
    obtain rfl := oi u
    have h909 := hd822 _ rfl
    subst h909
    exact tn ⟨c780, p781, k782, Sv783, wj s d [0, 1, 2, 3] [0, 1, 2]⟩
   rintro a w ⟨c826, p827, k828, Sv829, s, d⟩
   refine tn (sz 4 [0] s d rfl rfl fun a s => ?_)
   refine wp_join (fun a w => ∃ (out922 : (List Span)) (c918 p919 k920 Sv921 : _), span_Minus_j4 sv31 out922 = some tv518 ∧ Sl 68 [(1, sl p11 k12 rv10), (5, sl p919 k920 out922), (14, sl (ad b694) k23 rv21), (15, iv (rv21.length : Int)), (16, iv sv31.2)] a ∧ Wd ⟨w0, S0, []⟩ Sv921 [.row p11 rv10.length k12 c14 45 2, .row p919 out922.length k920 c918 45 2, .row (ad b694) rv21.length k23 c25 45 2] [RowA c14 rv10, RowA c918 out922, RowA c25 rv21] w) ?_ ?_
   ·refine cd s u rfl (fun u => ?_) fun u => ?_
    ·refine wp_region_lit (rn 4 [0] s d rfl rfl fun a s => ?_)
     refine sv s (y_build (vs := [(0, iv e825.2), (1, iv x687.To)]) Bld45 rfl rfl) rfl fun a s => ?_
     refine w_litSlice (α := Span) (vs := [.agg #[iv e825.2, iv x687.To]]) (cs := [iv e825.2, iv x687.To]) (xs := ([(⟨e825.2, x687.To⟩ : Span)] : List Span)) s d El52 rfl rfl rfl rfl rfl rfl ⟨⟨_, _, rfl, rfl, rfl⟩, rfl⟩ rfl trivial rfl fun b925 a w s d => ?_
     obtain ⟨l927, h926, u⟩ := bt u
     refine w_appendR (α := Span) s d El52 3 rfl rfl rfl 2 rfl 0 rfl 0 rfl h926 rfl trivial ?_
     intro p928 k929 c930 a w s d
     refine rz0 1 s rfl fun a s => ?_
     exact ⟨l927, c930, p928, k929, Sv829, u, wj s d [2, 3, 4] [2, 0, 4]⟩
    exact sk ⟨e825.1, c826, p827, k828, Sv829, u, wj s d [1, 2, 3] [0, 1, 2]⟩
   rintro a w ⟨out922, c918, p919, k920, Sv921, u, s, d⟩
   refine blk_normal (tn (wp_region_lit (rz0 2 s rfl fun a s => ?_)))
   exact ⟨_, io u, c918, p919, k920, Sv921, wj s d [0, 1, 2] [0, 1, 2]⟩
  refine wp_exit (then_exit (then_exit (blk_exit ?_)))
  obtain rfl := oi u
  have h932 := hd517 _ rfl
  subst h932
  exact tn ⟨c354, p355, k356, Sv357, wj s d [1] [1]⟩
 rintro a w ⟨c521, p522, k523, Sv524, s, d⟩
 refine tn (sz0 2 s rfl fun a s => ?_)
 obtain rfl := oi u
 exact q1 s rfl (d.ret ⟨p522, k523, c521, rfl, (d.outs [0] (by decide) rfl), (d.envAt 0 rfl)⟩)
theorem compose_Latest_ok {w0 S0 p2 k3 p6 k7 a1 b5 r} (u : compose_Latest a1 b5 = some r) (hS : Dm S0 w0) (h4 : (Sq p2 k3 a1).p S0 w0) (h8 : (Sq p6 k7 b5).p S0 w0) : Ck Tryz.prog 35 #[sl p2 k3 a1, sl p6 k7 b5] w0 S0 [] compose_Covered_rd r := by
 refine en 81 func35 rfl hS rfl rfl rfl fun a s d => ?_
 have d := (d.addE h4).addE h8
 refine sz0 2 s rfl fun a s => ?_
 refine wp_seq (sn0 1 s rfl fun a s => ?_)
 obtain ⟨rv10, h9, u⟩ := bt u
 refine cV s d (compose_Valid_ok h9 d.bdom (d.bE 1 rfl)) (do_call call41 rfl) rfl fun a w s d => ?_
 refine rn0 2 s rfl fun a s => ?_
 obtain ⟨c24, hc24, u⟩ := bt u
 refine wpl_join 4 (fun a w => ∃ Sv25, Sl 81 [(0, sl p2 k3 a1), (1, sl p6 k7 b5), (24, .bool c24)] a ∧ Wd ⟨w0, S0, []⟩ Sv25 [] [Sq p2 k3 a1, Sq p6 k7 b5] w) ?_ ?_
 ·rcases Bool.eq_false_or_eq_true (!rv10) with h23 | h23
  ·have s := s.bT 20 rfl h23
   have u := ite_t hc24 h23
   refine rn0 4 s rfl fun a s => ?_
   refine wpList_nil ?_
   obtain rfl := oi u
   exact tn ⟨S0, wj s d [] [1, 0]⟩
  have s := s.bF 20 rfl h23
  have u := ite_f hc24 h23
  refine st_val s (y_move rfl) ⟨_, rfl, rfl⟩ rfl rfl fun a s => ?_
  obtain ⟨rv27, h26, u⟩ := bt u
  refine st_callR s (compose_Valid_ok h26 d.bdom (d.bE 0 rfl)) (do_call call41 rfl) ⟨_, rfl, rfl⟩ rfl rfl ?_
  rintro v31 Sv28 w a h29 rfl s
  have d := d.callB h29
  refine rn0 2 s rfl fun a s => ?_
  refine wpList_nil ?_
  obtain rfl := oi u
  exact tn ⟨S0, wj s d [] [1, 0]⟩
 rintro a w ⟨Sv25, s, d⟩
 refine nl (cd s u rfl (fun u => ?_) fun u => ?_)
 ·refine sz0 2 s rfl fun a s => ?_
  obtain rfl := oi u
  have d := d.nilRow Span 45
  exact wp_ret (then_ret (ret2 s rfl (rv_tmp rfl) (rv_tmp rfl) (d.ret ⟨none, 0, [], rfl, (d.outs [0] (by decide) rfl), (d.envAt 0 rfl)⟩)))
 refine sk (sn0 1 s rfl fun a s => ?_)
 obtain ⟨rv36, h35, u⟩ := bt u
 refine cR s (compose_compose_ok h35 d.dom (d.envAt 0 rfl)) (do_call call49 rfl) rfl ?_
 rintro v44 Sv41 w a h42 ⟨p37, k38, c40, rfl, h45, h39⟩ s
 have d := (d.callN h42 h45).addE (e := RowA c40 rv36) h39
 refine mv s rfl rfl fun a s => ?_
 obtain ⟨rv47, h46, u⟩ := bt u
 refine cR s (compose_compose_ok h46 d.dom (d.envAt 2 rfl)) (do_call call49 rfl) rfl ?_
 rintro v55 Sv52 w a h53 ⟨p48, k49, c51, rfl, h56, h50⟩ s
 have d := (d.callN h53 h56).addE (e := RowA c51 rv47) h50
 refine rz0 2 s rfl fun a s => ?_
 refine sz0 2 s rfl fun a s => ?_
 refine wp_seq (sn0 2 s rfl fun a s => ?_)
 obtain ⟨Sv59, d⟩ := w_share (α := Record) d 1 rfl 1 rfl
 obtain ⟨Sv60, d⟩ := w_share (α := Record) d 0 rfl 1 rfl
 refine w_litSlice (α := (List Record)) (vs := [sl p37 k38 rv36, sl p48 k49 rv47]) (cs := [sl p37 k38 rv36, sl p48 k49 rv47]) (xs := ([rv36, rv47] : List (List Record))) s d El70 rfl rfl rfl rfl rfl rfl ⟨⟨_, rfl, ⟨_, _, _, rfl, d.envAt 1 rfl⟩⟩, ⟨⟨_, rfl, ⟨_, _, _, rfl, d.envAt 0 rfl⟩⟩, rfl⟩⟩ rfl trivial rfl fun b58 a w s d => ?_
 obtain ⟨rv62, h61, u⟩ := bt u
 obtain ⟨Sv67, d⟩ := w_share (α := (List Record)) d 0 rfl 0 rfl
 refine cR s (slices_Concat_Lapi_Record_api_Record_ok h61 d.dom (d.envAt 0 rfl)) (do_call call63 rfl) rfl ?_
 rintro v71 Sv68 w a h69 ⟨p63, k64, c66, rfl, h72, h65⟩ s
 have d := (d.callN h69 h72).addE (e := RowA c66 rv62) h65
 refine rz0 2 s rfl fun a s => ?_
 obtain ⟨e184, h453, u⟩ := bt u
 refine wp_join (fun a w => ∃ c185 p186 k187 Sv188, Sl 81 [(6, sl p37 k38 rv36), (7, sl p48 k49 rv47), (8, sl p186 k187 e184), (9, .slice none ([] : List Span).length 0)] a ∧ Wd ⟨w0, S0, []⟩ Sv188 [.row p186 e184.length k187 c185 45 2] [Sq p37 k38 rv36, Sq p48 k49 rv47, Sq none 0 ([] : List Span), RowA c185 e184] w) ?_ ?_
 ·refine wp_block ?_
  have d := (d.nilRow Span 45).addE (e := SlA (α := Span) none 0 0 []) nil_sl
  refine wp_while (fun sv73 a w => ∃ c144 p145 k146 Sv147, Sl 81 [(6, sl p37 k38 rv36), (7, sl p48 k49 rv47), (8, sl p145 k146 sv73.1), (9, .slice none ([] : List Span).length 0), (32, sl p63 k64 rv62), (33, iv (rv62.length : Int)), (34, iv sv73.2)] a ∧ Wd ⟨w0, S0, []⟩ Sv147 [.row p145 sv73.1.length k146 c144 45 2, .row p63 rv62.length k64 c66 35 12] [Sq p37 k38 rv36, Sq p48 k49 rv47, Sq none 0 ([] : List Span), RowA c144 sv73.1, RowA c66 rv62] w) (([] : List Span), 0) h453 ⟨[], none, 0, Sv68, wj s d [0, 1] [6, 5, 0, 1, 2]⟩ ?_
  clear h453
  repeat clear u
  rintro sv73 a w tv182 ⟨c144, p145, k146, Sv147, s, d⟩ u hd181
  refine sz0 1 s rfl fun a s => ?_
  refine wp_seq (cd s u rfl (fun u => ?_) fun u => ?_)
  ·refine sk (wp_seq (wp_block (sr ?_)))
   obtain ⟨x225, h223, u⟩ := bt u
   obtain ⟨b232, q229, c230, h233, h226, h227, h231, h224⟩ := d.elemRV (α := Record) 1 rfl 4 rfl h223
   have hsv234 := s
   have hwv235 := d
   subst h233
   have s := hsv234
   have d := hwv235
   obtain ⟨_, _, _, _, _, _, _, _, _, _, _, _, rfl, rfl, rfl, rfl, rfl, rfl, rfl, rfl, rfl, rfl, rfl, rfl, ⟨p236, n237, k238, rfl, h239⟩⟩ := h224
   obtain rfl := h239.1
   have d := d.addE (e := SlA p236 _ k238 x225.Samples) h239
   refine sv s (y_indexAt runUnderlying27 sizeOf35 rfl rfl h226.1 h226.2 h227) rfl fun a s => ?_
   refine sv s (y_loadQA (j := 0) (d.ownAt 1 rfl) rfl isAgg35 sizeOf35 h231 rfl rfl) rfl fun a s => ?_
   refine wa Z4 s d zeroValue35 fun b240 a w s d => ?_
   refine ws (C35 x225 p236 k238) s d 0 rfl rfl rfl sizeOf35 fun a w s d => ?_
   refine nl (wp_region_lit (rn 2 [0] s d rfl rfl fun a s => ?_))
   obtain ⟨rv242, h241, u⟩ := bt u
   refine cV s d (compose_extent_ok h241 d.bdom (d.bE 0 rfl)) (do_call call59 rfl) rfl fun a w s d => ?_
   refine w_litSlice (α := Span) (vs := [V45 rv242]) (cs := (C45 rv242)) (xs := ([rv242] : List Span)) s d El52 rfl rfl rfl rfl rfl rfl ⟨⟨_, _, rfl, rfl, rfl⟩, rfl⟩ rfl trivial rfl fun b249 a w s d => ?_
   obtain ⟨l251, h250, u⟩ := bt u
   refine w_appendR (α := Span) s d El52 2 rfl rfl rfl 5 rfl 0 rfl 0 rfl h250 rfl trivial ?_
   intro p252 k253 c254 a w s d
   refine av s rfl rfl fun a s => ?_
   refine wpList_nil ?_
   refine blk_normal (tn (wp_region_lit (rz0 2 s rfl fun a s => ?_)))
   exact ⟨_, io u, c254, p252, k253, Sv147, wj s d [2, 3] [3, 4, 5, 0, 7]⟩
  refine wp_exit (then_exit (then_exit (blk_exit ?_)))
  obtain rfl := oi u
  have h255 := hd181 _ rfl
  subst h255
  exact tn ⟨c144, p145, k146, Sv147, wj s d [0] [0, 1, 2, 3]⟩
 rintro a w ⟨c185, p186, k187, Sv188, s, d⟩
 refine tn (sn0 1 s rfl fun a s => ?_)
 obtain ⟨rv257, h256, u⟩ := bt u
 refine cR s (compose_samples_ok h256 d.dom (d.envAt 1 rfl)) (do_call call64 rfl) rfl ?_
 rintro v262 Sv259 w a h260 ⟨b258, rfl, h263⟩ s
 have d := d.callN h260 h263
 refine rz0 1 s rfl fun a s => ?_
 refine wp_seq (sn0 1 s rfl fun a s => ?_)
 obtain ⟨rv265, h264, u⟩ := bt u
 refine cR s (compose_samples_ok h264 d.dom (d.envAt 0 rfl)) (do_call call64 rfl) rfl ?_
 rintro v270 Sv267 w a h268 ⟨b266, rfl, h271⟩ s
 have d := d.callN h268 h271
 refine w_rangeO (α := Compose_sample) s d 0 rfl underlying92 underlying3 rfl trivial rfl ?_
 intro o272 b273 a w _ s d
 refine nl (wp_block ?_)
 have d := d.nilRow Span 45
 refine wp_range (fun (v346 : List (Int × Compose_sample)) sv344 a w => ∃ c392 p393 k394 Sv395, Sl 81 [(8, sl p186 k187 e184), (9, sl p393 k394 sv344), (12, .map (some b258)), (48, pt b273)] a ∧ Wd ⟨w0, S0, []⟩ Sv395 [moR Tryz.prog 3 b258 rv257, .ob b266 (fun o => o = o272), itR Tryz.prog 3 o272 b266 b273 rv265 v346, .row p186 e184.length k187 c185 45 2, .row p393 sv344.length k394 c392 45 2] [RowA c185 e184, RowA c392 sv344] w) ([] : List Span) u ⟨[], none, 0, Sv267, wj s d [3, 2, 1, 4, 0] [4, 0]⟩ ?_
 repeat clear u
 rintro v346 sv344 a w _ hd348 hm349 ⟨c392, p393, k394, Sv395, s, d⟩
 refine sr (w_nextO (α := Compose_sample) (ve := fun e345 => V95 e345.2) s d 2 1 rfl rfl underlying3 rfl trivial rfl (fun _ => rfl) ?_ ?_)
 ·intro a hp s
  have u := hd348 hp
  clear hd348 hm349
  refine rz0 1 s rfl fun a s => ?_
  refine wp_seq (wp_cond_false (s.ev rfl) ?_)
  refine wp_exit (then_exit (then_exit (blk_exit (tn (sn0 2 s rfl fun a s => ?_)))))
  obtain ⟨rv397, h396, u⟩ := bt u
  obtain ⟨Sv402, d⟩ := w_share (α := Span) d 3 rfl 0 rfl
  obtain ⟨Sv403, d⟩ := w_share (α := Span) d 3 rfl 2 rfl
  refine cR s (span_Minus_ok h396 d.dom (d.envAt 1 rfl) (d.envAt 0 rfl)) (do_call call65 rfl) rfl ?_
  rintro v407 Sv404 w a h405 ⟨p398, k399, c401, rfl, h408, h400⟩ s
  have d := (d.callN h405 h408).addE (e := RowA c401 rv397) h400
  refine rz0 2 s rfl fun a s => ?_
  obtain rfl := oi u
  exact wp_ret (ret2 s rfl (rv_tmp rfl) (rv_tmp rfl) (d.ret ⟨p398, k399, c401, rfl, (d.outs [0] (by decide) rfl), (d.envAt 0 rfl)⟩))
 intro e345 a w _ hc350 s d
 obtain ⟨tv347, u⟩ := hm349 e345 hc350
 have hf351 := u
 refine rz0 1 s rfl fun a s => ?_
 refine wp_seq (wp_cond_true (s.ev rfl) ?_)
 refine sk (wp_block (sr (sv s (y_entryO (α := Compose_sample) (vv := V95 e345.2) (d.ownAt 2 rfl) (d.ownAt 1 rfl) rfl rfl) rfl fun a s => ?_)))
 refine rn0 2 s rfl fun a s => ?_
 refine wa [iv 0, iv 0, iv 0] s d zeroValue95 fun b427 a w s d => ?_
 refine av s rfl rfl fun a s => ?_
 refine ws (C95 e345.2) s d 0 rfl rfl rfl sizeOf95 fun a w s d => ?_
 refine nl (sn0 2 s rfl fun a s => ?_)
 obtain ⟨g429, h428, u⟩ := bt u
 refine sv s (y_lookO (α := Compose_sample) (vv := V95 g429.1) (d.ownAt 1 rfl) underlying92 underlying3 zeroValue95 rfl rfl rfl h428 rfl) rfl fun a s => ?_
 refine rn0 3 s rfl fun a s => ?_
 refine wa [iv 0, iv 0, iv 0] s d zeroValue95 fun b430 a w s d => ?_
 refine ws (C95 g429.1) s d 0 rfl rfl rfl sizeOf95 fun a w s d => ?_
 refine rz0 1 s rfl fun a s => ?_
 refine sn0 2 s rfl fun a s => ?_
 refine rA 6 61 [0, 1] s d rfl rfl rfl rfl rfl fun a s => ?_
 refine nl (wp_join (fun a w => ∃ (same444 : (List Span)) (c440 p441 k442 Sv443 : _), compose_Latest_j2 same444 = some tv347 ∧ Sl 81 [(8, sl p186 k187 e184), (9, sl p441 k442 same444), (12, .map (some b258)), (48, pt b273)] a ∧ Wd ⟨w0, S0, []⟩ Sv443 [moR Tryz.prog 3 b258 rv257, .ob b266 (fun o => o = o272), itR Tryz.prog 3 o272 b266 b273 rv265 (e345 :: v346), .row p186 e184.length k187 c185 45 2, .row p441 same444.length k442 c440 45 2] [RowA c185 e184, RowA c440 same444] w) ?_ ?_)
 ·refine cd s u rfl (fun u => ?_) fun u => ?_
  ·refine wp_region_lit (rn 7 [1, 0] s d rfl rfl fun a s => ?_)
   refine sv s (y_build (vs := [(0, iv e345.1), (1, iv (min e345.2.to_ g429.1.to_))]) Bld45 rfl rfl) rfl fun a s => ?_
   refine w_litSlice (α := Span) (vs := [.agg #[iv e345.1, iv (min e345.2.to_ g429.1.to_)]]) (cs := [iv e345.1, iv (min e345.2.to_ g429.1.to_)]) (xs := ([(⟨e345.1, (min e345.2.to_ g429.1.to_)⟩ : Span)] : List Span)) s d El52 rfl rfl rfl rfl rfl rfl ⟨⟨_, _, rfl, rfl, rfl⟩, rfl⟩ rfl trivial rfl fun b447 a w s d => ?_
   obtain ⟨l449, h448, u⟩ := bt u
   refine w_appendR (α := Span) s d El52 7 rfl rfl rfl 2 rfl 0 rfl 0 rfl h448 rfl trivial ?_
   intro p450 k451 c452 a w s d
   refine rz0 1 s rfl fun a s => ?_
   exact ⟨l449, c452, p450, k451, Sv395, u, wj s d [3, 4, 5, 6, 7] [2, 0]⟩
  exact sk ⟨sv344, c392, p393, k394, Sv395, u, wj s d [2, 3, 4, 5, 6] [0, 1]⟩
 rintro a w ⟨same444, c440, p441, k442, Sv443, u, s, d⟩
 exact blk_normal (tn ⟨e345, _, hc350, hf351.trans u.symm, c440, p441, k442, Sv443, wj s d [0, 1, 2, 3, 4] [0, 1]⟩)
theorem ref15_own0_ok {w0 S0 p2 k3 l1 r} (u : ref15_own0 l1 = some r) (hS : Dm S0 w0) (h4 : (Sq p2 k3 l1).p S0 w0) : Ck Tryz.prog 98 #[sl p2 k3 l1] w0 S0 [] slices_IndexFunc_Lapi_Record_api_Record_rd r := by
 refine en 10 func98 rfl hS rfl rfl rfl fun a s d => ?_
 have d := d.addE h4
 refine sz0 1 s rfl fun a s => ?_
 refine wp_seq (sz0 3 s rfl fun a s => ?_)
 refine cd s u rfl (fun u => ?_) fun u => ?_
 ·refine sz0 1 s rfl fun a s => ?_
  obtain rfl := oi u
  exact wp_ret (then_ret (rt s rfl (d.ret rfl)))
 refine sk (sn0 1 s rfl fun a s => ?_)
 obtain ⟨x9, h7, u⟩ := bt u
 obtain ⟨b15, o16, q13, c14, h17, h10, h11, h12, h8⟩ := d.elemV 0 rfl h7
 have hsv18 := s
 have hwv19 := d
 subst h17
 have s := hsv18
 have d := hwv19
 obtain ⟨_, _, rfl, rfl, rfl⟩ := h8
 have d := d.addE h12
 refine sv s (y_indexAt runUnderlying52 sizeOf45 rfl rfl h10.1 h10.2 h11) rfl fun a s => ?_
 refine sv s (y_fieldAddr (o' := q13 + 0) runUnderlying45 rfl sizeOf3 rfl rfl rfl) rfl fun a s => ?_
 refine sv s (y_loadE1 (j := 0) (d.ceAt 0 rfl) rfl isAgg3 rfl) rfl fun a s => ?_
 refine rz0 1 s rfl fun a s => ?_
 obtain rfl := oi u
 exact q1 s rfl (d.ret rfl)
theorem ref08_Minus_ok {w0 S0 p2 k3 p6 k7 a1 b5 r} (u : ref08_Minus a1 b5 = some r) (hS : Dm S0 w0) (h4 : (Sq p2 k3 a1).p S0 w0) (h8 : (Sq p6 k7 b5).p S0 w0) : Ck Tryz.prog 36 #[sl p2 k3 a1, sl p6 k7 b5] w0 S0 [] slices_Clone_Lapi_Span_api_Span_rd r := by
 refine en 94 func36 rfl hS rfl rfl rfl fun a s d => ?_
 have d := (d.addE h4).addE h8
 refine sz0 1 s rfl fun a s => ?_
 refine sn0 1 s rfl fun a s => ?_
 obtain ⟨rv10, h9, u⟩ := bt u
 refine cR s (ref08_Normal_ok h9 d.dom (d.envAt 1 rfl)) (do_call call58 rfl) rfl ?_
 rintro v18 Sv15 w a h16 ⟨p11, k12, c14, rfl, h19, h13⟩ s
 have d := (d.callN h16 h19).addE (e := RowA c14 rv10) h13
 refine mv s rfl rfl fun a s => ?_
 obtain ⟨rv21, h20, u⟩ := bt u
 refine cR s (ref08_Normal_ok h20 d.dom (d.envAt 1 rfl)) (do_call call58 rfl) rfl ?_
 rintro v29 Sv26 w a h27 ⟨p22, k23, c25, rfl, h30, h24⟩ s
 have d := (d.callN h27 h30).addE (e := RowA c25 rv21) h24
 refine rz0 2 s rfl fun a s => ?_
 refine sz0 1 s rfl fun a s => ?_
 refine wp_seq (sz0 1 s rfl fun a s => ?_)
 obtain ⟨e1000, h1862, u⟩ := bt u
 refine wp_join (fun a w => ∃ c1001 p1002 k1003 Sv1004, Sl 94 [(7, sl p1002 k1003 e1000)] a ∧ Wd ⟨w0, S0, []⟩ Sv1004 [.row p1002 e1000.length k1003 c1001 45 2] [RowA c1001 e1000] w) ?_ ?_
 ·refine wp_block ?_
  have d := d.nilRow Span 45
  refine wp_while (fun sv31 a w => ∃ c674 p675 k676 Sv677, Sl 94 [(5, sl p11 k12 rv10), (6, sl p22 k23 rv21), (7, sl p675 k676 sv31.1), (8, iv sv31.2)] a ∧ Wd ⟨w0, S0, []⟩ Sv677 [.row p11 rv10.length k12 c14 45 2, .row p22 rv21.length k23 c25 45 2, .row p675 sv31.1.length k676 c674 45 2] [RowA c14 rv10, RowA c25 rv21, RowA c674 sv31.1] w) (([] : List Span), 0) h1862 ⟨[], none, 0, Sv26, wj s d [2, 1, 0] [2, 1, 0]⟩ ?_
  clear h1862
  repeat clear u
  rintro sv31 a w tv998 ⟨c674, p675, k676, Sv677, s, d⟩ u hd997
  refine wp_seq (sz0 4 s rfl fun a s => ?_)
  refine cd s u rfl (fun u => ?_) fun u => ?_
  ·refine sk (wp_seq (wp_block (sn0 2 s rfl fun a s => ?_)))
   obtain ⟨x1325, h1323, u⟩ := bt u
   obtain ⟨b1332, q1329, c1330, h1333, h1326, h1327, h1331, h1324⟩ := d.elemRV (α := Span) 0 rfl 0 rfl h1323
   have hsv1334 := s
   have hwv1335 := d
   subst h1333
   have s := hsv1334
   have d := hwv1335
   obtain ⟨_, _, rfl, rfl, rfl⟩ := h1324
   refine sv s (y_indexAt runUnderlying52 sizeOf45 rfl rfl h1326.1 h1326.2 h1327) rfl fun a s => ?_
   refine sv s (y_fieldAddr (o' := q1329 + 0) runUnderlying45 rfl sizeOf3 rfl rfl rfl) rfl fun a s => ?_
   refine sv s (y_loadQ1 (j := 0) (d.ownAt 0 rfl) rfl isAgg3 h1331 rfl) rfl fun a s => ?_
   refine rz0 1 s rfl fun a s => ?_
   refine wp_seq (sz0 1 s rfl fun a s => ?_)
   obtain ⟨e1603, h1860, u⟩ := bt u
   refine wp_join (fun a w => ∃ c1604 p1605 k1606 Sv1607, Sl 94 [(5, sl (ad b1332) k12 rv10), (6, sl p22 k23 rv21), (7, sl p1605 k1606 e1603.1), (8, iv sv31.2), (9, iv e1603.2)] a ∧ Wd ⟨w0, S0, []⟩ Sv1607 [.row (ad b1332) rv10.length k12 c14 45 2, .row p22 rv21.length k23 c25 45 2, .row p1605 e1603.1.length k1606 c1604 45 2] [RowA c14 rv10, RowA c25 rv21, RowA c1604 e1603.1] w) ?_ ?_
   ·refine wp_block (wp_while (fun sv1336 a w => ∃ c1511 p1512 k1513 Sv1514, Sl 94 [(5, sl (ad b1332) k12 rv10), (6, sl p22 k23 rv21), (7, sl p1512 k1513 sv1336.1), (8, iv sv31.2), (9, iv sv1336.2.1), (10, iv sv1336.2.2)] a ∧ Wd ⟨w0, S0, []⟩ Sv1514 [.row (ad b1332) rv10.length k12 c14 45 2, .row p22 rv21.length k23 c25 45 2, .row p1512 sv1336.1.length k1513 c1511 45 2] [RowA c14 rv10, RowA c25 rv21, RowA c1511 sv1336.1] w) (sv31.1, x1325.From, 0) h1860 ⟨c674, p675, k676, Sv677, wj s d [0, 1, 2] [0, 1, 2]⟩ ?_)
    clear h1860
    repeat clear u
    rintro sv1336 a w tv1601 ⟨c1511, p1512, k1513, Sv1514, s, d⟩ u hd1600
    refine wp_seq (sz0 4 s rfl fun a s => ?_)
    refine cd s u rfl (fun u => ?_) fun u => ?_
    ·refine sk (wp_seq (wp_join (fun a w => ∃ (out1690 : (List Span)) (fromv1691 : Int) (c1686 p1687 k1688 Sv1689 : _), ref08_Minus_j1 sv1336 out1690 fromv1691 = some tv1601 ∧ Sl 94 [(5, sl (ad b1332) k12 rv10), (6, sl p22 k23 rv21), (7, sl p1687 k1688 out1690), (8, iv sv31.2), (9, iv fromv1691), (10, iv sv1336.2.2)] a ∧ Wd ⟨w0, S0, []⟩ Sv1689 [.row (ad b1332) rv10.length k12 c14 45 2, .row p22 rv21.length k23 c25 45 2, .row p1687 out1690.length k1688 c1686 45 2] [RowA c14 rv10, RowA c25 rv21, RowA c1686 out1690] w) ?_ ?_))
     ·refine wp_block (wp_seq (wp_seq ?_))
      obtain ⟨x1696, h1694, u⟩ := bt u
      obtain ⟨b1703, q1700, c1701, h1704, h1697, h1698, h1702, h1695⟩ := d.elemRV (α := Span) 1 rfl 1 rfl h1694
      have hsv1705 := s
      have hwv1706 := d
      subst h1704
      have s := hsv1705
      have d := hwv1706
      obtain ⟨_, _, rfl, rfl, rfl⟩ := h1695
      obtain ⟨c1725, hc1725, u⟩ := bt u
      refine wp_only (fun a w => ∃ Sv1726, Sl 94 [(5, sl (ad b1332) k12 rv10), (6, sl (ad b1703) k23 rv21), (7, sl p1512 k1513 sv1336.1), (8, iv sv31.2), (9, iv sv1336.2.1), (10, iv sv1336.2.2), (51, .bool c1725)] a ∧ Wd ⟨w0, S0, []⟩ Sv1726 [.row (ad b1332) rv10.length k12 c14 45 2, .row (ad b1703) rv21.length k23 c25 45 2, .row p1512 sv1336.1.length k1513 c1511 45 2] [RowA c14 rv10, RowA c25 rv21, RowA c1511 sv1336.1] w) ?_ ?_
      ·rcases Bool.eq_false_or_eq_true (decide (x1696.To ≤ sv1336.2.1)) with h1727 | h1727
       ·have h1728 := ite_t hc1725 h1727
        refine h_c [0, 1, 2] [] d rfl rfl (by kernel_rfl) rfl fun hC d => ?_
        refine gn 2 [0, 1] [] s hC rfl rfl rfl fun a s => ?_
        refine gx s 2 rfl trivial rfl hC runUnderlying52 sizeOf45 rfl rfl h1697 h1698 fun a s => ?_
        refine gv s 3 rfl rfl hC (fun w hC => y_fieldAddr (o' := q1700 + 1) runUnderlying45 rfl sizeOf3 rfl rfl rfl) fun a s => ?_
        refine gv s 4 rfl rfl hC (fun w hC => y_loadQ1 (j := 1) (hC.ownAt 1 rfl) rfl isAgg3 h1702 rfl) fun a s => ?_
        refine gn 3 [5, 6, 7] [] s hC rfl rfl rfl fun a s => ?_
        have s := s.bT 39 rfl h1727
        refine gn 11 [8, 9, 10, 11, 12, 13, 14, 15, 16, 17, 18] [] s hC rfl rfl rfl fun a s => ?_
        refine gT s 19 rfl rfl hC rfl rfl h1728 fun a s => ?_
        refine h_done (by kernel_rfl) ?_
        exact ⟨Sv1514, wj s d [0, 1, 2] [0, 1, 2]⟩
       have h1729 := ite_f hc1725 h1727
       obtain ⟨x1732, h1730, h1729⟩ := bind_t h1729
       obtain ⟨q1736, c1737, h1733, h1734, h1738, h1731⟩ := d.elemRK (α := Span) 1 rfl 1 rfl h1730
       obtain ⟨_, _, rfl, rfl, rfl⟩ := h1731
       obtain ⟨x1741, h1739, h1729⟩ := bind_t h1729
       obtain ⟨q1745, c1746, h1742, h1743, h1747, h1740⟩ := d.elemRK (α := Span) 0 rfl 0 rfl h1739
       obtain ⟨_, _, rfl, rfl, rfl⟩ := h1740
       refine h_c [0, 1, 2] [] d rfl rfl (by kernel_rfl) rfl fun hC d => ?_
       refine gn 2 [0, 1] [] s hC rfl rfl rfl fun a s => ?_
       refine gx s 2 rfl trivial rfl hC runUnderlying52 sizeOf45 rfl rfl h1697 h1698 fun a s => ?_
       refine gv s 3 rfl rfl hC (fun w hC => y_fieldAddr (o' := q1700 + 1) runUnderlying45 rfl sizeOf3 rfl rfl rfl) fun a s => ?_
       refine gv s 4 rfl rfl hC (fun w hC => y_loadQ1 (j := 1) (hC.ownAt 1 rfl) rfl isAgg3 h1702 rfl) fun a s => ?_
       refine gn 3 [5, 6, 7] [] s hC rfl rfl rfl fun a s => ?_
       have s := s.bF 39 rfl h1727
       refine gn 2 [8, 9] [] s hC rfl rfl rfl fun a s => ?_
       refine gx s 10 rfl ⟨_, rfl, rfl⟩ rfl hC runUnderlying52 sizeOf45 rfl rfl h1733 h1734 fun a s => ?_
       refine gt s 11 rfl ⟨_, rfl, rfl⟩ rfl hC (fun w hC => y_fieldAddr (o' := q1736 + 0) runUnderlying45 rfl sizeOf3 rfl rfl rfl) fun a s => ?_
       refine gt s 12 rfl ⟨_, rfl, rfl⟩ rfl hC (fun w hC => y_loadQ1 (j := 0) (hC.ownAt 1 rfl) rfl isAgg3 h1738 rfl) fun a s => ?_
       refine gn 2 [13, 14] [] s hC rfl rfl rfl fun a s => ?_
       refine gx s 15 rfl ⟨_, rfl, rfl⟩ rfl hC runUnderlying52 sizeOf45 rfl rfl h1742 h1743 fun a s => ?_
       refine gt s 16 rfl ⟨_, rfl, rfl⟩ rfl hC (fun w hC => y_fieldAddr (o' := q1745 + 1) runUnderlying45 rfl sizeOf3 rfl rfl rfl) fun a s => ?_
       refine gt s 17 rfl ⟨_, rfl, rfl⟩ rfl hC (fun w hC => y_loadQ1 (j := 1) (hC.ownAt 0 rfl) rfl isAgg3 h1747 rfl) fun a s => ?_
       refine gt s 18 rfl ⟨_, rfl, rfl⟩ rfl hC (fun w hC => y_geq rfl rfl) fun a s => ?_
       refine gF s 19 rfl rfl hC rfl rfl h1729 fun a s => ?_
       refine h_done (by kernel_rfl) ?_
       exact ⟨Sv1514, wj s d [0, 1, 2] [0, 1, 2]⟩
      rintro a w ⟨Sv1726, s, d⟩
      refine tn (cd s u rfl (fun u => ?_) fun u => ?_)
      ·exact wp_exit (then_exit (blk_exit (tn ⟨sv1336.1, sv1336.2.1, c1511, p1512, k1513, Sv1726, u, wj s d [0, 1, 2] [0, 1, 2]⟩)))
      refine sk (wp_seq (sn0 2 s rfl fun a s => ?_))
      obtain ⟨x1752, h1750, u⟩ := bt u
      obtain ⟨q1756, c1757, h1753, h1754, h1758, h1751⟩ := d.elemRK (α := Span) 1 rfl 1 rfl h1750
      obtain ⟨_, _, rfl, rfl, rfl⟩ := h1751
      refine sv s (y_indexAt runUnderlying52 sizeOf45 rfl rfl h1753.1 h1753.2 h1754) rfl fun a s => ?_
      refine sv s (y_fieldAddr (o' := q1756 + 0) runUnderlying45 rfl sizeOf3 rfl rfl rfl) rfl fun a s => ?_
      refine sv s (y_loadQ1 (j := 0) (d.ownAt 1 rfl) rfl isAgg3 h1758 rfl) rfl fun a s => ?_
      refine rz0 2 s rfl fun a s => ?_
      refine wp_join (fun a w => ∃ (out1780 : (List Span)) (c1776 p1777 k1778 Sv1779 : _), ref08_Minus_j2 rv21 sv1336 out1780 = some tv1601 ∧ Sl 94 [(5, sl (ad b1332) k12 rv10), (6, sl (ad b1703) k23 rv21), (7, sl p1777 k1778 out1780), (8, iv sv31.2), (9, iv sv1336.2.1), (10, iv sv1336.2.2)] a ∧ Wd ⟨w0, S0, []⟩ Sv1779 [.row (ad b1332) rv10.length k12 c14 45 2, .row (ad b1703) rv21.length k23 c25 45 2, .row p1777 out1780.length k1778 c1776 45 2] [RowA c14 rv10, RowA c25 rv21, RowA c1776 out1780] w) ?_ ?_
      ·refine cd s u rfl (fun u => ?_) fun u => ?_
       ·refine wp_region_lit (rn0 4 s rfl fun a s => ?_)
        obtain ⟨x1795, h1793, u⟩ := bt u
        obtain ⟨q1799, c1800, h1796, h1797, h1801, h1794⟩ := d.elemRK (α := Span) 1 rfl 1 rfl h1793
        obtain ⟨_, _, rfl, rfl, rfl⟩ := h1794
        refine sv s (y_indexAt runUnderlying52 sizeOf45 rfl rfl h1796.1 h1796.2 h1797) rfl fun a s => ?_
        refine sv s (y_fieldAddr (o' := q1799 + 0) runUnderlying45 rfl sizeOf3 rfl rfl rfl) rfl fun a s => ?_
        refine sv s (y_loadQ1 (j := 0) (d.ownAt 1 rfl) rfl isAgg3 h1801 rfl) rfl fun a s => ?_
        refine sv s (y_build (vs := [(0, iv sv1336.2.1), (1, iv x1795.From)]) Bld45 rfl rfl) rfl fun a s => ?_
        refine w_litSlice (α := Span) (vs := [.agg #[iv sv1336.2.1, iv x1795.From]]) (cs := [iv sv1336.2.1, iv x1795.From]) (xs := ([(⟨sv1336.2.1, x1795.From⟩ : Span)] : List Span)) s d El52 rfl rfl rfl rfl rfl rfl ⟨⟨_, _, rfl, rfl, rfl⟩, rfl⟩ rfl trivial rfl fun b1803 a w s d => ?_
        obtain ⟨l1805, h1804, u⟩ := bt u
        refine w_appendR (α := Span) s d El52 3 rfl rfl rfl 3 rfl 0 rfl 0 rfl h1804 rfl trivial ?_
        intro p1806 k1807 c1808 a w s d
        refine rz0 1 s rfl fun a s => ?_
        exact ⟨l1805, c1808, p1806, k1807, Sv1726, u, wj s d [1, 2, 3] [2, 3, 0]⟩
       exact sk ⟨sv1336.1, c1511, p1512, k1513, Sv1726, u, wj s d [0, 1, 2] [0, 1, 2]⟩
      rintro a w ⟨out1780, c1776, p1777, k1778, Sv1779, u, s, d⟩
      refine tn (wp_region_lit (rn0 3 s rfl fun a s => ?_))
      obtain ⟨x1783, h1781, u⟩ := bt u
      obtain ⟨q1787, c1788, h1784, h1785, h1789, h1782⟩ := d.elemRK (α := Span) 1 rfl 1 rfl h1781
      obtain ⟨_, _, rfl, rfl, rfl⟩ := h1782
      refine sv s (y_indexAt runUnderlying52 sizeOf45 rfl rfl h1784.1 h1784.2 h1785) rfl fun a s => ?_
      refine sv s (y_fieldAddr (o' := q1787 + 1) runUnderlying45 rfl sizeOf3 rfl rfl rfl) rfl fun a s => ?_
      refine sv s (y_loadQ1 (j := 1) (d.ownAt 1 rfl) rfl isAgg3 h1789 rfl) rfl fun a s => ?_
      refine sv s (y_max rfl rfl) rfl fun a s => ?_
      obtain ⟨fromv1791, h1790, u⟩ := bt u
      refine sv s (y_assignI rfl h1790) rfl fun a s => ?_
      refine wpList_nil ?_
      exact blk_normal (tn ⟨out1780, fromv1791, c1776, p1777, k1778, Sv1779, u, wj s d [0, 1, 2] [0, 1, 2]⟩)
     rintro a w ⟨out1690, fromv1691, c1686, p1687, k1688, Sv1689, u, s, d⟩
     refine tn (wp_region_lit (rn0 2 s rfl fun a s => ?_))
     obtain ⟨k1693, h1692, u⟩ := bt u
     refine sv s (y_assignI rfl h1692) rfl fun a s => ?_
     exact nl ⟨_, io u, c1686, p1687, k1688, Sv1689, wj s d [0, 1, 2] [0, 1, 2]⟩
    refine wp_exit (then_exit (then_exit (blk_exit ?_)))
    obtain rfl := oi u
    have h1809 := hd1600 _ rfl
    subst h1809
    exact tn ⟨c1511, p1512, k1513, Sv1514, wj s d [0, 1, 2] [0, 1, 2]⟩
   rintro a w ⟨c1604, p1605, k1606, Sv1607, s, d⟩
   refine tn (sn0 3 s rfl fun a s => ?_)
   obtain ⟨x1812, h1810, u⟩ := bt u
   obtain ⟨q1816, c1817, h1813, h1814, h1818, h1811⟩ := d.elemRK (α := Span) 0 rfl 0 rfl h1810
   obtain ⟨_, _, rfl, rfl, rfl⟩ := h1811
   refine sv s (y_indexAt runUnderlying52 sizeOf45 rfl rfl h1813.1 h1813.2 h1814) rfl fun a s => ?_
   refine sv s (y_fieldAddr (o' := q1816 + 1) runUnderlying45 rfl sizeOf3 rfl rfl rfl) rfl fun a s => ?_
   refine sv s (y_loadQ1 (j := 1) (d.ownAt 0 rfl) rfl isAgg3 h1818 rfl) rfl fun a s => ?_
   refine rz0 1 s rfl fun a s => ?_
   refine wp_join (fun a w => ∃ (out1840 : (List Span)) (c1836 p1837 k1838 Sv1839 : _), ref08_Minus_j4 sv31 out1840 = some tv998 ∧ Sl 94 [(5, sl (ad b1332) k12 rv10), (6, sl p22 k23 rv21), (7, sl p1837 k1838 out1840), (8, iv sv31.2)] a ∧ Wd ⟨w0, S0, []⟩ Sv1839 [.row (ad b1332) rv10.length k12 c14 45 2, .row p22 rv21.length k23 c25 45 2, .row p1837 out1840.length k1838 c1836 45 2] [RowA c14 rv10, RowA c25 rv21, RowA c1836 out1840] w) ?_ ?_
   ·refine cd s u rfl (fun u => ?_) fun u => ?_
    ·refine wp_region_lit (rn0 4 s rfl fun a s => ?_)
     obtain ⟨x1846, h1844, u⟩ := bt u
     obtain ⟨q1850, c1851, h1847, h1848, h1852, h1845⟩ := d.elemRK (α := Span) 0 rfl 0 rfl h1844
     obtain ⟨_, _, rfl, rfl, rfl⟩ := h1845
     refine sv s (y_indexAt runUnderlying52 sizeOf45 rfl rfl h1847.1 h1847.2 h1848) rfl fun a s => ?_
     refine sv s (y_fieldAddr (o' := q1850 + 1) runUnderlying45 rfl sizeOf3 rfl rfl rfl) rfl fun a s => ?_
     refine sv s (y_loadQ1 (j := 1) (d.ownAt 0 rfl) rfl isAgg3 h1852 rfl) rfl fun a s => ?_
     refine sv s (y_build (vs := [(0, iv e1603.2), (1, iv x1846.To)]) Bld45 rfl rfl) rfl fun a s => ?_
     refine w_litSlice (α := Span) (vs := [.agg #[iv e1603.2, iv x1846.To]]) (cs := [iv e1603.2, iv x1846.To]) (xs := ([(⟨e1603.2, x1846.To⟩ : Span)] : List Span)) s d El52 rfl rfl rfl rfl rfl rfl ⟨⟨_, _, rfl, rfl, rfl⟩, rfl⟩ rfl trivial rfl fun b1854 a w s d => ?_
     obtain ⟨l1856, h1855, u⟩ := bt u
     refine w_appendR (α := Span) s d El52 3 rfl rfl rfl 3 rfl 0 rfl 0 rfl h1855 rfl trivial ?_
     intro p1857 k1858 c1859 a w s d
     refine rz0 1 s rfl fun a s => ?_
     exact ⟨l1856, c1859, p1857, k1858, Sv1607, u, wj s d [1, 2, 3] [2, 3, 0]⟩
    exact sk ⟨e1603.1, c1604, p1605, k1606, Sv1607, u, wj s d [0, 1, 2] [0, 1, 2]⟩
   rintro a w ⟨out1840, c1836, p1837, k1838, Sv1839, u, s, d⟩
   refine blk_normal (tn (wp_region_lit (rn0 2 s rfl fun a s => ?_)))
   obtain ⟨i1842, h1841, u⟩ := bt u
   refine sv s (y_assignI rfl h1841) rfl fun a s => ?_
   exact nl ⟨_, io u, c1836, p1837, k1838, Sv1839, wj s d [0, 1, 2] [0, 1, 2]⟩
  refine wp_exit (then_exit (then_exit (blk_exit ?_)))
  obtain rfl := oi u
  have h1861 := hd997 _ rfl
  subst h1861
  exact tn ⟨c674, p675, k676, Sv677, wj s d [2] [2]⟩
 rintro a w ⟨c1001, p1002, k1003, Sv1004, s, d⟩
 refine tn (sz0 2 s rfl fun a s => ?_)
 obtain rfl := oi u
 exact q1 s rfl (d.ret ⟨p1002, k1003, c1001, rfl, (d.outs [0] (by decide) rfl), (d.envAt 0 rfl)⟩)
theorem ref15_differ_ok {w0 S0 p2 k3 p6 k7 a1 b5 r} (u : ref15_differ a1 b5 = some r) (hS : Dm S0 w0) (h4 : (Sq p2 k3 a1).p S0 w0) (h8 : (Sq p6 k7 b5).p S0 w0) : Ck Tryz.prog 69 #[sl p2 k3 a1, sl p6 k7 b5] w0 S0 [] slices_Clone_Lapi_Span_api_Span_rd r := by
 refine en 131 func69 rfl hS rfl rfl rfl fun a s d => ?_
 have d := (d.addE h4).addE h8
 refine sz0 1 s rfl fun a s => ?_
 refine sz0 1 s rfl fun a s => ?_
 refine wp_seq (sz0 1 s rfl fun a s => ?_)
 obtain ⟨e12807, h25402, u⟩ := bt u
 refine wp_join (fun a w => ∃ c12808 p12809 k12810 Sv12811, Sl 131 [(5, sl p12809 k12810 e12807)] a ∧ Wd ⟨w0, S0, []⟩ Sv12811 [.row p12809 e12807.length k12810 c12808 45 2] [RowA c12808 e12807] w) ?_ ?_
 ·refine wp_block ?_
  have d := d.nilRow Span 45
  refine wp_while (fun sv9 a w => ∃ c8538 p8539 k8540 Sv8541, Sl 131 [(0, sl p2 k3 a1), (1, sl p6 k7 b5), (5, sl p8539 k8540 sv9.1), (6, iv sv9.2)] a ∧ Wd ⟨w0, S0, []⟩ Sv8541 [.row p8539 sv9.1.length k8540 c8538 45 2] [Sq p2 k3 a1, Sq p6 k7 b5, RowA c8538 sv9.1] w) (([] : List Span), 0) h25402 ⟨[], none, 0, S0, wj s d [0] [2, 1, 0]⟩ ?_
  clear h25402
  repeat clear u
  rintro sv9 a w tv12805 ⟨c8538, p8539, k8540, Sv8541, s, d⟩ u hd12804
  refine wp_seq (sz0 4 s rfl fun a s => ?_)
  refine cd s u rfl (fun u => ?_) fun u => ?_
  ·refine sk (wp_seq (wp_block (sz0 1 s rfl fun a s => ?_)))
   obtain ⟨e21327, h25388, u⟩ := bt u
   refine wp_join (fun a w => ∃ c21328 p21329 k21330 Sv21331, Sl 131 [(0, sl p2 k3 a1), (1, sl p6 k7 b5), (5, sl p21329 k21330 e21327), (6, iv sv9.2)] a ∧ Wd ⟨w0, S0, []⟩ Sv21331 [.row p21329 e21327.length k21330 c21328 45 2] [Sq p2 k3 a1, Sq p6 k7 b5, RowA c21328 e21327] w) ?_ ?_
   ·refine wp_block (wp_while (fun sv17073 a w => ∃ c19906 p19907 k19908 Sv19909, Sl 131 [(0, sl p2 k3 a1), (1, sl p6 k7 b5), (5, sl p19907 k19908 sv17073.1), (6, iv sv9.2), (7, iv sv17073.2)] a ∧ Wd ⟨w0, S0, []⟩ Sv19909 [.row p19907 sv17073.1.length k19908 c19906 45 2] [Sq p2 k3 a1, Sq p6 k7 b5, RowA c19906 sv17073.1] w) (sv9.1, 0) h25388 ⟨c8538, p8539, k8540, Sv8541, wj s d [0] [0, 1, 2]⟩ ?_)
    clear h25388
    repeat clear u
    rintro sv17073 a w tv21325 ⟨c19906, p19907, k19908, Sv19909, s, d⟩ u hd21324
    refine wp_seq (sn0 3 s rfl fun a s => ?_)
    obtain ⟨x21334, h21332, u⟩ := bt u
    obtain ⟨b21340, o21341, q21338, c21339, h21342, h21335, h21336, h21337, h21333⟩ := d.elemV 0 rfl h21332
    have hsv21343 := s
    have hwv21344 := d
    subst h21342
    have s := hsv21343
    have d := hwv21344
    obtain ⟨_, _, _, _, _, _, _, _, _, _, _, _, rfl, rfl, rfl, rfl, rfl, rfl, rfl, rfl, rfl, rfl, rfl, rfl, ⟨p21345, n21346, k21347, rfl, h21348⟩⟩ := h21333
    obtain rfl := h21348.1
    have d := (d.addE (e := SlA p21345 _ k21347 x21334.Samples) h21348).addE h21337
    refine sv s (y_indexAt runUnderlying27 sizeOf35 rfl rfl h21335.1 h21335.2 h21336) rfl fun a s => ?_
    refine sv s (y_fieldAddr (o' := q21338 + 11) runUnderlying35 rfl sizeOf22 rfl rfl rfl) rfl fun a s => ?_
    refine sv s (y_loadE1 (j := 11) (d.ceAt 0 rfl) rfl isAgg22 rfl) rfl fun a s => ?_
    refine rz0 2 s rfl fun a s => ?_
    refine cd s u rfl (fun u => ?_) fun u => ?_
    ·refine sk (wp_seq (wp_block (wp_seq ?_)))
     obtain ⟨x22747, h22745, u⟩ := bt u
     obtain ⟨q22751, c22752, h22748, h22749, h22750, h22746⟩ := d.elemK 2 rfl h22745
     obtain ⟨_, _, _, _, _, _, _, _, _, _, _, _, rfl, rfl, rfl, rfl, rfl, rfl, rfl, rfl, rfl, rfl, rfl, rfl, ⟨p22753, n22754, k22755, rfl, h22756⟩⟩ := h22746
     obtain rfl := h22756.1
     have d := (d.addE (e := SlA p22753 _ k22755 x22747.Samples) h22756).addE h22750
     obtain ⟨rv22758, h22757, u⟩ := bt u
     obtain ⟨x22761, h22759, u⟩ := bt u
     obtain ⟨q22765, c22766, h22762, h22763, h22764, h22760⟩ := d.elemK 4 rfl h22759
     obtain ⟨_, _, _, _, _, _, _, _, _, _, _, _, rfl, rfl, rfl, rfl, rfl, rfl, rfl, rfl, rfl, rfl, rfl, rfl, ⟨p22767, n22768, k22769, rfl, h22770⟩⟩ := h22760
     obtain rfl := h22770.1
     have d := (d.addE (e := SlA p22767 _ k22769 x22761.Samples) h22770).addE h22764
     obtain ⟨rv22772, h22771, u⟩ := bt u
     refine wp_only (fun a w => ∃ Sv22775 b22774, Sl 131 [(0, sl (some ⟨b21340, o21341, none⟩) k3 a1), (1, sl p6 k7 b5), (5, sl p19907 k19908 sv17073.1), (6, iv sv9.2), (7, iv sv17073.2), (8, sl (ad b22774) ([(⟨rv22758, rv22772⟩ : Span)] : List Span).length ([(⟨rv22758, rv22772⟩ : Span)] : List Span))] a ∧ Wd ⟨w0, S0, []⟩ Sv22775 [.row p19907 sv17073.1.length k19908 c19906 45 2, .row (ad b22774) ([(⟨rv22758, rv22772⟩ : Span)] : List Span).length ([(⟨rv22758, rv22772⟩ : Span)] : List Span).length [iv rv22758, iv rv22772] 45 2] [Sq (some ⟨b21340, o21341, none⟩) k3 a1, Sq p6 k7 b5, RowA c19906 sv17073.1, RowA [iv rv22758, iv rv22772] ([(⟨rv22758, rv22772⟩ : Span)] : List Span)] w) ?_ ?_
     ·refine h_c [0] [0, 2, 4] d rfl rfl (by kernel_rfl) rfl fun hC d => ?_
      refine gn 2 [0, 1] [] s hC rfl rfl rfl fun a s => ?_
      refine gx s 2 rfl trivial rfl hC runUnderlying27 sizeOf35 rfl rfl h22748 h22749 fun a s => ?_
      refine gv s 3 rfl rfl hC (fun w hC => y_loadEA (j := 0) (hC.ceAt 1 rfl) rfl isAgg35 sizeOf35 rfl rfl) fun a s => ?_
      refine gn 3 [4, 6, 7] [] s hC rfl rfl rfl fun a s => ?_
      refine gx s 8 rfl trivial rfl hC runUnderlying27 sizeOf35 rfl rfl h22762 h22763 fun a s => ?_
      refine gv s 9 rfl rfl hC (fun w hC => y_loadEA (j := 0) (hC.ceAt 0 rfl) rfl isAgg35 sizeOf35 rfl rfl) fun a s => ?_
      refine gn 2 [10, 11] [] s hC rfl rfl rfl fun a s => ?_
      refine ho 5 rfl ?_
      refine cV s d (ref14_Time_ok h22757 d.bdom (d.bE 3 rfl)) (do_call call52 rfl) rfl fun a w s d => ?_
      refine h_n [0] [0, 2, 4] d rfl rfl fun hC => ?_
      refine ho 12 rfl ?_
      refine cV s d (ref14_Time_ok h22771 d.bdom (d.bE 1 rfl)) (do_call call52 rfl) rfl fun a w s d => ?_
      refine h_n [0] [0, 2, 4] d rfl rfl fun hC => ?_
      refine gv s 13 rfl rfl hC (fun w hC => y_build (vs := [(0, iv rv22758), (1, iv rv22772)]) Bld45 rfl rfl) fun a s => ?_
      refine ho 14 rfl ?_
      refine w_litSlice (α := Span) (vs := [.agg #[iv rv22758, iv rv22772]]) (cs := [iv rv22758, iv rv22772]) (xs := ([(⟨rv22758, rv22772⟩ : Span)] : List Span)) s d El52 rfl rfl rfl rfl rfl rfl ⟨⟨_, _, rfl, rfl, rfl⟩, rfl⟩ rfl trivial rfl fun b22774 a w s d => ?_
      refine h_n [1] [1, 3, 5] d rfl rfl fun hC => ?_
      refine h_d [1, 0] [1, 3, 5] [0] [0, 1, 2] d rfl rfl rfl rfl fun hC => ?_
      refine gv s 15 rfl rfl hC (fun w hC => y_assign rfl) fun a s => ?_
      refine h_done (by kernel_rfl) ?_
      exact ⟨Sv19909, b22774, wj s d [1, 0] [7, 8, 9, 0]⟩
     rintro a w ⟨Sv22775, b22774, s, d⟩
     refine tn (wp_seq (sz0 1 s rfl fun a s => ?_))
     obtain ⟨e24139, h25384, u⟩ := bt u
     refine wp_join (fun a w => ∃ c24140 p24141 k24142 Sv24143, Sl 131 [(0, sl (some ⟨b21340, o21341, none⟩) k3 a1), (1, sl p6 k7 b5), (5, sl p19907 k19908 sv17073.1), (6, iv sv9.2), (7, iv sv17073.2), (8, sl p24141 k24142 e24139)] a ∧ Wd ⟨w0, S0, []⟩ Sv24143 [.row p19907 sv17073.1.length k19908 c19906 45 2, .row p24141 e24139.length k24142 c24140 45 2] [Sq (some ⟨b21340, o21341, none⟩) k3 a1, Sq p6 k7 b5, RowA c19906 sv17073.1, RowA c24140 e24139] w) ?_ ?_
     ·refine wp_block (wp_while (fun sv22786 a w => ∃ c23685 p23686 k23687 Sv23688, Sl 131 [(0, sl (some ⟨b21340, o21341, none⟩) k3 a1), (1, sl p6 k7 b5), (5, sl p19907 k19908 sv17073.1), (6, iv sv9.2), (7, iv sv17073.2), (8, sl p23686 k23687 sv22786.1), (9, iv sv22786.2)] a ∧ Wd ⟨w0, S0, []⟩ Sv23688 [.row p19907 sv17073.1.length k19908 c19906 45 2, .row p23686 sv22786.1.length k23687 c23685 45 2] [Sq (some ⟨b21340, o21341, none⟩) k3 a1, Sq p6 k7 b5, RowA c19906 sv17073.1, RowA c23685 sv22786.1] w) (([(⟨rv22758, rv22772⟩ : Span)] : List Span), 0) h25384 ⟨[iv rv22758, iv rv22772], (ad b22774), ([(⟨rv22758, rv22772⟩ : Span)] : List Span).length, Sv22775, wj s d [0, 1] [0, 1, 2, 3]⟩ ?_)
      clear h25384
      repeat clear u
      rintro sv22786 a w tv24137 ⟨c23685, p23686, k23687, Sv23688, s, d⟩ u hd24136
      refine wp_seq (sz0 4 s rfl fun a s => ?_)
      refine cd s u rfl (fun u => ?_) fun u => ?_
      ·refine sk (wp_seq (wp_join (fun a w => ∃ (own24589 : (List Span)) (c24585 p24586 k24587 Sv24588 : _), ref15_differ_j1 sv22786 own24589 = some tv24137 ∧ Sl 131 [(0, sl (some ⟨b21340, o21341, none⟩) k3 a1), (1, sl p6 k7 b5), (5, sl p19907 k19908 sv17073.1), (6, iv sv9.2), (7, iv sv17073.2), (8, sl p24586 k24587 own24589), (9, iv sv22786.2)] a ∧ Wd ⟨w0, S0, []⟩ Sv24588 [.row p19907 sv17073.1.length k19908 c19906 45 2, .row p24586 own24589.length k24587 c24585 45 2] [Sq (some ⟨b21340, o21341, none⟩) k3 a1, Sq p6 k7 b5, RowA c19906 sv17073.1, RowA c24585 own24589] w) ?_ ?_))
       ·refine wp_block (sn0 2 s rfl fun a s => ?_)
        obtain ⟨x24594, h24592, u⟩ := bt u
        obtain ⟨b24600, o24601, q24598, c24599, h24602, h24595, h24596, h24597, h24593⟩ := d.elemV 1 rfl h24592
        have hsv24603 := s
        have hwv24604 := d
        subst h24602
        have s := hsv24603
        have d := hwv24604
        obtain ⟨_, _, _, _, _, _, _, _, _, _, _, _, rfl, rfl, rfl, rfl, rfl, rfl, rfl, rfl, rfl, rfl, rfl, rfl, ⟨p24605, n24606, k24607, rfl, h24608⟩⟩ := h24593
        obtain rfl := h24608.1
        have d := (d.addE (e := SlA p24605 _ k24607 x24594.Samples) h24608).addE h24597
        refine sv s (y_indexAt runUnderlying27 sizeOf35 rfl rfl h24595.1 h24595.2 h24596) rfl fun a s => ?_
        refine sv s (y_loadEA (j := 0) (d.ceAt 0 rfl) rfl isAgg35 sizeOf35 rfl rfl) rfl fun a s => ?_
        obtain ⟨rv24610, h24609, u⟩ := bt u
        refine cV s d (ref14_Span_ok h24609 d.bdom (d.bE 1 rfl)) (do_call call22 rfl) rfl fun a w s d => ?_
        refine rn0 3 s rfl fun a s => ?_
        refine wa [iv 0, iv 0] s d zeroValue45 fun b24616 a w s d => ?_
        refine ws (C45 rv24610.1) s d 0 rfl rfl rfl sizeOf45 fun a w s d => ?_
        refine rz0 1 s rfl fun a s => ?_
        refine wp_seq (wp_seq ?_)
        obtain ⟨rv24618, h24617, u⟩ := bt u
        refine wp_only (fun a w => ∃ Sv24619, Sl 131 [(0, sl (some ⟨b21340, o21341, none⟩) k3 a1), (1, sl (some ⟨b24600, o24601, none⟩) k7 b5), (5, sl p19907 k19908 sv17073.1), (6, iv sv9.2), (7, iv sv17073.2), (8, sl p23686 k23687 sv22786.1), (9, iv sv22786.2), (69, .bool ((decide (rv24610.1.To ≤ rv24618)) || ((sv22786.1.length : Int) == 0)))] a ∧ Wd ⟨w0, S0, []⟩ Sv24619 [.row p19907 sv17073.1.length k19908 c19906 45 2, .row p23686 sv22786.1.length k23687 c23685 45 2] [Sq (some ⟨b21340, o21341, none⟩) k3 a1, Sq (some ⟨b24600, o24601, none⟩) k7 b5, RowA c19906 sv17073.1, RowA c23685 sv22786.1] w) ?_ ?_
        ·refine h_c [0, 1, 2] [0] d rfl rfl (by kernel_rfl) rfl fun hC d => ?_
         refine gn 3 [0, 1, 2] [0] s hC rfl rfl rfl fun a s => ?_
         refine ho 3 rfl ?_
         refine cV s d (ref15_own0_ok h24617 d.bdom (d.bRow 2 rfl 5 rfl)) (do_call call98 rfl) rfl fun a w s d => ?_
         refine h_n [0, 1, 2] [0] d rfl rfl fun hC => ?_
         refine gn 2 [4, 5] [] s hC rfl rfl rfl fun a s => ?_
         refine gO 4 65 [6, 7, 8, 9] [] s hC rfl rfl rfl rfl rfl rfl fun a s => ?_
         refine h_done (by kernel_rfl) ?_
         exact ⟨Sv23688, wj s d [1, 2] [2, 3, 4, 5]⟩
        rintro a w ⟨Sv24619, s, d⟩
        refine tn (cd s u rfl (fun u => ?_) fun u => ?_)
        ·exact wp_exit (then_exit (blk_exit (tn ⟨sv22786.1, c23685, p23686, k23687, Sv24619, u, wj s d [0, 1] [0, 1, 2, 3]⟩)))
        refine sk (sz0 1 s rfl fun a s => ?_)
        obtain ⟨e25032, h25375, u⟩ := bt u
        refine wp_join (fun a w => ∃ c25033 p25034 k25035 Sv25036, Sl 131 [(0, sl (some ⟨b21340, o21341, none⟩) k3 a1), (1, sl (some ⟨b24600, o24601, none⟩) k7 b5), (5, sl p19907 k19908 sv17073.1), (6, iv sv9.2), (7, iv sv17073.2), (8, sl p25034 k25035 e25032), (9, iv sv22786.2)] a ∧ Wd ⟨w0, S0, []⟩ Sv25036 [.row p19907 sv17073.1.length k19908 c19906 45 2, .row p25034 e25032.length k25035 c25033 45 2] [Sq (some ⟨b21340, o21341, none⟩) k3 a1, Sq (some ⟨b24600, o24601, none⟩) k7 b5, RowA c19906 sv17073.1, RowA c25033 e25032] w) ?_ ?_
        ·refine wp_block (wp_while (fun sv24627 a w => ∃ c24894 p24895 k24896 Sv24897, Sl 131 [(0, sl (some ⟨b21340, o21341, none⟩) k3 a1), (1, sl (some ⟨b24600, o24601, none⟩) k7 b5), (5, sl p19907 k19908 sv17073.1), (6, iv sv9.2), (7, iv sv17073.2), (8, sl p24895 k24896 sv24627.1), (9, iv sv22786.2), (12, iv sv24627.2)] a ∧ Wd ⟨w0, S0, []⟩ Sv24897 [.row p19907 sv17073.1.length k19908 c19906 45 2, .row p24895 sv24627.1.length k24896 c24894 45 2] [Sq (some ⟨b21340, o21341, none⟩) k3 a1, Sq (some ⟨b24600, o24601, none⟩) k7 b5, RowA c19906 sv17073.1, RowA c24894 sv24627.1] w) (sv22786.1, 0) h25375 ⟨c23685, p23686, k23687, Sv24619, wj s d [0, 1] [0, 1, 2, 3]⟩ ?_)
         clear h25375
         repeat clear u
         rintro sv24627 a w tv25030 ⟨c24894, p24895, k24896, Sv24897, s, d⟩ u hd25029
         refine wp_seq (sn0 3 s rfl fun a s => ?_)
         obtain ⟨x25039, h25037, u⟩ := bt u
         obtain ⟨q25043, c25044, h25040, h25041, h25042, h25038⟩ := d.elemK 1 rfl h25037
         obtain ⟨_, _, _, _, _, _, _, _, _, _, _, _, rfl, rfl, rfl, rfl, rfl, rfl, rfl, rfl, rfl, rfl, rfl, rfl, ⟨p25045, n25046, k25047, rfl, h25048⟩⟩ := h25038
         obtain rfl := h25048.1
         have d := (d.addE (e := SlA p25045 _ k25047 x25039.Samples) h25048).addE h25042
         refine sv s (y_indexAt runUnderlying27 sizeOf35 rfl rfl h25040.1 h25040.2 h25041) rfl fun a s => ?_
         refine sv s (y_fieldAddr (o' := q25043 + 11) runUnderlying35 rfl sizeOf22 rfl rfl rfl) rfl fun a s => ?_
         refine sv s (y_loadE1 (j := 11) (d.ceAt 0 rfl) rfl isAgg22 rfl) rfl fun a s => ?_
         refine rz0 2 s rfl fun a s => ?_
         refine cd s u rfl (fun u => ?_) fun u => ?_
         ·refine sk (wp_seq (wp_block (wp_seq ?_)))
          obtain ⟨x25169, h25167, u⟩ := bt u
          obtain ⟨q25173, c25174, h25170, h25171, h25172, h25168⟩ := d.elemK 3 rfl h25167
          obtain ⟨_, _, _, _, _, _, _, _, _, _, _, _, rfl, rfl, rfl, rfl, rfl, rfl, rfl, rfl, rfl, rfl, rfl, rfl, ⟨p25175, n25176, k25177, rfl, h25178⟩⟩ := h25168
          obtain rfl := h25178.1
          have d := (d.addE (e := SlA p25175 _ k25177 x25169.Samples) h25178).addE h25172
          obtain ⟨rv25180, h25179, u⟩ := bt u
          obtain ⟨x25183, h25181, u⟩ := bt u
          obtain ⟨q25187, c25188, h25184, h25185, h25186, h25182⟩ := d.elemK 5 rfl h25181
          obtain ⟨_, _, _, _, _, _, _, _, _, _, _, _, rfl, rfl, rfl, rfl, rfl, rfl, rfl, rfl, rfl, rfl, rfl, rfl, ⟨p25189, n25190, k25191, rfl, h25192⟩⟩ := h25182
          obtain rfl := h25192.1
          have d := (d.addE (e := SlA p25189 _ k25191 x25183.Samples) h25192).addE h25186
          obtain ⟨rv25194, h25193, u⟩ := bt u
          refine wp_only (fun a w => ∃ Sv25195, Sl 131 [(0, sl (some ⟨b21340, o21341, none⟩) k3 a1), (1, sl (some ⟨b24600, o24601, none⟩) k7 b5), (5, sl p19907 k19908 sv17073.1), (6, iv sv9.2), (7, iv sv17073.2), (8, sl p24895 k24896 sv24627.1), (9, iv sv22786.2), (12, iv sv24627.2), (13, iv rv25180), (14, iv rv25194)] a ∧ Wd ⟨w0, S0, []⟩ Sv25195 [.row p19907 sv17073.1.length k19908 c19906 45 2, .row p24895 sv24627.1.length k24896 c24894 45 2] [Sq (some ⟨b21340, o21341, none⟩) k3 a1, Sq (some ⟨b24600, o24601, none⟩) k7 b5, RowA c19906 sv17073.1, RowA c24894 sv24627.1] w) ?_ ?_
          ·refine h_c [0, 1] [0, 2, 4] d rfl rfl (by kernel_rfl) rfl fun hC d => ?_
           refine gn 2 [0, 1] [] s hC rfl rfl rfl fun a s => ?_
           refine gx s 2 rfl trivial rfl hC runUnderlying27 sizeOf35 rfl rfl h25170 h25171 fun a s => ?_
           refine gv s 3 rfl rfl hC (fun w hC => y_loadEA (j := 0) (hC.ceAt 1 rfl) rfl isAgg35 sizeOf35 rfl rfl) fun a s => ?_
           refine gn 3 [4, 6, 7] [] s hC rfl rfl rfl fun a s => ?_
           refine gx s 8 rfl trivial rfl hC runUnderlying27 sizeOf35 rfl rfl h25184 h25185 fun a s => ?_
           refine gv s 9 rfl rfl hC (fun w hC => y_loadEA (j := 0) (hC.ceAt 0 rfl) rfl isAgg35 sizeOf35 rfl rfl) fun a s => ?_
           refine gn 2 [10, 11] [] s hC rfl rfl rfl fun a s => ?_
           refine ho 5 rfl ?_
           refine cV s d (ref14_Time_ok h25179 d.bdom (d.bE 3 rfl)) (do_call call52 rfl) rfl fun a w s d => ?_
           refine h_n [0, 1] [0, 2, 4] d rfl rfl fun hC => ?_
           refine ho 12 rfl ?_
           refine cV s d (ref14_Time_ok h25193 d.bdom (d.bE 1 rfl)) (do_call call52 rfl) rfl fun a w s d => ?_
           refine h_n [0, 1] [0, 2, 4] d rfl rfl fun hC => ?_
           refine gn 2 [13, 14] [] s hC rfl rfl rfl fun a s => ?_
           refine h_done (by kernel_rfl) ?_
           exact ⟨Sv24897, wj s d [0, 1] [6, 7, 8, 9]⟩
          rintro a w ⟨Sv25195, s, d⟩
          refine tn (wp_seq ?_)
          obtain ⟨x25208, h25206, u⟩ := bt u
          obtain ⟨q25212, c25213, h25209, h25210, h25211, h25207⟩ := d.elemK 0 rfl h25206
          obtain ⟨_, _, _, _, _, _, _, _, _, _, _, _, rfl, rfl, rfl, rfl, rfl, rfl, rfl, rfl, rfl, rfl, rfl, rfl, ⟨p25214, n25215, k25216, rfl, h25217⟩⟩ := h25207
          obtain rfl := h25217.1
          have d := (d.addE (e := SlA p25214 _ k25216 x25208.Samples) h25217).addE h25211
          obtain ⟨rv25219, h25218, u⟩ := bt u
          obtain ⟨c25270, hc25270, u⟩ := bt u
          refine wp_only (fun a w => ∃ Sv25271, Sl 131 [(0, sl (some ⟨b21340, o21341, none⟩) k3 a1), (1, sl (some ⟨b24600, o24601, none⟩) k7 b5), (5, sl p19907 k19908 sv17073.1), (6, iv sv9.2), (7, iv sv17073.2), (8, sl p24895 k24896 sv24627.1), (9, iv sv22786.2), (12, iv sv24627.2), (13, iv rv25180), (14, iv rv25194), (119, .bool c25270)] a ∧ Wd ⟨w0, S0, []⟩ Sv25271 [.row p19907 sv17073.1.length k19908 c19906 45 2, .row p24895 sv24627.1.length k24896 c24894 45 2] [Sq (some ⟨b21340, o21341, none⟩) k3 a1, Sq (some ⟨b24600, o24601, none⟩) k7 b5, RowA c19906 sv17073.1, RowA c24894 sv24627.1] w) ?_ ?_
          ·rcases Bool.eq_false_or_eq_true (rv25180 == rv25219) with h25272 | h25272
           ·have h25273 := ite_t hc25270 h25272
            obtain ⟨x25276, h25274, h25273⟩ := bind_t h25273
            obtain ⟨q25280, c25281, h25277, h25278, h25279, h25275⟩ := d.elemK 3 rfl h25274
            obtain ⟨_, _, _, _, _, _, _, _, _, _, _, _, rfl, rfl, rfl, rfl, rfl, rfl, rfl, rfl, rfl, rfl, rfl, rfl, ⟨p25282, n25283, k25284, rfl, h25285⟩⟩ := h25275
            obtain rfl := h25285.1
            have d := (d.addE (e := SlA p25282 _ k25284 x25276.Samples) h25285).addE h25279
            obtain ⟨x25288, h25286, h25273⟩ := bind_t h25273
            obtain ⟨b25294, o25295, q25292, c25293, h25296, h25289, h25290, h25291, h25287⟩ := d.elemV 1 rfl h25286
            have hsv25297 := s
            have hwv25298 := d
            subst h25296
            have s := hsv25297
            have d := hwv25298
            obtain ⟨_, rfl, rfl⟩ := h25287
            have d := d.addE h25291
            obtain ⟨x25301, h25299, h25273⟩ := bind_t h25273
            obtain ⟨q25305, c25306, h25302, h25303, h25304, h25300⟩ := d.elemK 5 rfl h25299
            obtain ⟨_, _, _, _, _, _, _, _, _, _, _, _, rfl, rfl, rfl, rfl, rfl, rfl, rfl, rfl, rfl, rfl, rfl, rfl, ⟨p25307, n25308, k25309, rfl, h25310⟩⟩ := h25300
            obtain rfl := h25310.1
            have d := (d.addE (e := SlA p25307 _ k25309 x25301.Samples) h25310).addE h25304
            obtain ⟨x25313, h25311, h25273⟩ := bind_t h25273
            obtain ⟨b25319, o25320, q25317, c25318, h25321, h25314, h25315, h25316, h25312⟩ := d.elemV 1 rfl h25311
            have hsv25322 := s
            have hwv25323 := d
            subst h25321
            have s := hsv25322
            have d := hwv25323
            obtain ⟨_, rfl, rfl⟩ := h25312
            have d := d.addE h25316
            refine h_c [0, 1] [0, 1, 3, 4, 6] d rfl rfl (by kernel_rfl) rfl fun hC d => ?_
            refine gn 3 [0, 1, 2] [] s hC rfl rfl rfl fun a s => ?_
            refine gx s 3 rfl trivial rfl hC runUnderlying27 sizeOf35 rfl rfl h25209 h25210 fun a s => ?_
            refine gv s 4 rfl rfl hC (fun w hC => y_loadEA (j := 0) (hC.ceAt 4 rfl) rfl isAgg35 sizeOf35 rfl rfl) fun a s => ?_
            refine gm s 5 rfl rfl rfl hC fun a s => ?_
            refine ho 6 rfl ?_
            refine cV s d (ref14_Time_ok h25218 d.bdom (d.bE 7 rfl)) (do_call call52 rfl) rfl fun a w s d => ?_
            refine h_n [0, 1] [0, 1, 3, 4, 6] d rfl rfl fun hC => ?_
            refine gn 2 [7, 8] [] s hC rfl rfl rfl fun a s => ?_
            have s := s.bT 101 rfl h25272
            refine gn 2 [9, 10] [] s hC rfl rfl rfl fun a s => ?_
            refine gx s 11 rfl ⟨_, rfl, rfl⟩ rfl hC runUnderlying27 sizeOf35 rfl rfl h25277 h25278 fun a s => ?_
            refine gt s 12 rfl ⟨_, rfl, rfl⟩ rfl hC (fun w hC => y_fieldAddr (o' := q25280 + 11) runUnderlying35 rfl sizeOf22 rfl rfl rfl) fun a s => ?_
            refine gt s 13 rfl ⟨_, rfl, rfl⟩ rfl hC (fun w hC => y_loadE1 (j := 11) (hC.ceAt 3 rfl) rfl isAgg22 rfl) fun a s => ?_
            refine gt s 14 rfl ⟨_, rfl, rfl⟩ rfl hC (fun w hC => y_move rfl) fun a s => ?_
            refine gx s 15 rfl ⟨_, rfl, rfl⟩ rfl hC runUnderlying22 sizeOf3 rfl rfl h25289 h25290 fun a s => ?_
            refine gt s 16 rfl ⟨_, rfl, rfl⟩ rfl hC (fun w hC => y_loadE1 (j := 0) (hC.ceAt 2 rfl) rfl isAgg3 rfl) fun a s => ?_
            refine gn 2 [17, 18] [] s hC rfl rfl rfl fun a s => ?_
            refine gx s 19 rfl ⟨_, rfl, rfl⟩ rfl hC runUnderlying27 sizeOf35 rfl rfl h25302 h25303 fun a s => ?_
            refine gt s 20 rfl ⟨_, rfl, rfl⟩ rfl hC (fun w hC => y_fieldAddr (o' := q25305 + 11) runUnderlying35 rfl sizeOf22 rfl rfl rfl) fun a s => ?_
            refine gt s 21 rfl ⟨_, rfl, rfl⟩ rfl hC (fun w hC => y_loadE1 (j := 11) (hC.ceAt 1 rfl) rfl isAgg22 rfl) fun a s => ?_
            refine gt s 22 rfl ⟨_, rfl, rfl⟩ rfl hC (fun w hC => y_move rfl) fun a s => ?_
            refine gx s 23 rfl ⟨_, rfl, rfl⟩ rfl hC runUnderlying22 sizeOf3 rfl rfl h25314 h25315 fun a s => ?_
            refine gt s 24 rfl ⟨_, rfl, rfl⟩ rfl hC (fun w hC => y_loadE1 (j := 0) (hC.ceAt 0 rfl) rfl isAgg3 rfl) fun a s => ?_
            refine gt s 25 rfl ⟨_, rfl, rfl⟩ rfl hC (fun w hC => y_eql rfl rfl) fun a s => ?_
            refine gT s 26 rfl rfl hC rfl rfl h25273 fun a s => ?_
            refine h_done (by kernel_rfl) ?_
            exact ⟨Sv25195, wj s d [0, 1] [8, 9, 10, 11]⟩
           have h25329 := ite_f hc25270 h25272
           refine h_c [0, 1] [0] d rfl rfl (by kernel_rfl) rfl fun hC d => ?_
           refine gn 3 [0, 1, 2] [] s hC rfl rfl rfl fun a s => ?_
           refine gx s 3 rfl trivial rfl hC runUnderlying27 sizeOf35 rfl rfl h25209 h25210 fun a s => ?_
           refine gv s 4 rfl rfl hC (fun w hC => y_loadEA (j := 0) (hC.ceAt 0 rfl) rfl isAgg35 sizeOf35 rfl rfl) fun a s => ?_
           refine gm s 5 rfl rfl rfl hC fun a s => ?_
           refine ho 6 rfl ?_
           refine cV s d (ref14_Time_ok h25218 d.bdom (d.bE 1 rfl)) (do_call call52 rfl) rfl fun a w s d => ?_
           refine h_n [0, 1] [0] d rfl rfl fun hC => ?_
           refine gn 2 [7, 8] [] s hC rfl rfl rfl fun a s => ?_
           have s := s.bF 101 rfl h25272
           refine gn 17 [9, 10, 11, 12, 13, 14, 15, 16, 17, 18, 19, 20, 21, 22, 23, 24, 25] [] s hC rfl rfl rfl fun a s => ?_
           refine gF s 26 rfl rfl hC rfl rfl h25329 fun a s => ?_
           refine h_done (by kernel_rfl) ?_
           exact ⟨Sv25195, wj s d [0, 1] [2, 3, 4, 5]⟩
          rintro a w ⟨Sv25271, s, d⟩
          refine tn (wp_join (fun a w => ∃ (own25355 : (List Span)) (c25351 p25352 k25353 Sv25354 : _), ref15_differ_j2 sv24627 own25355 = some tv25030 ∧ Sl 131 [(0, sl (some ⟨b21340, o21341, none⟩) k3 a1), (1, sl (some ⟨b24600, o24601, none⟩) k7 b5), (5, sl p19907 k19908 sv17073.1), (6, iv sv9.2), (7, iv sv17073.2), (8, sl p25352 k25353 own25355), (9, iv sv22786.2), (12, iv sv24627.2)] a ∧ Wd ⟨w0, S0, []⟩ Sv25354 [.row p19907 sv17073.1.length k19908 c19906 45 2, .row p25352 own25355.length k25353 c25351 45 2] [Sq (some ⟨b21340, o21341, none⟩) k3 a1, Sq (some ⟨b24600, o24601, none⟩) k7 b5, RowA c19906 sv17073.1, RowA c25351 own25355] w) ?_ ?_)
          ·refine cd s u rfl (fun u => ?_) fun u => ?_
           ·refine wp_region_lit (rn0 3 s rfl fun a s => ?_)
            refine sv s (y_build (vs := [(0, iv rv25180), (1, iv rv25194)]) Bld45 rfl rfl) rfl fun a s => ?_
            refine w_litSlice (α := Span) (vs := [.agg #[iv rv25180, iv rv25194]]) (cs := [iv rv25180, iv rv25194]) (xs := ([(⟨rv25180, rv25194⟩ : Span)] : List Span)) s d El52 rfl rfl rfl rfl rfl rfl ⟨⟨_, _, rfl, rfl, rfl⟩, rfl⟩ rfl trivial rfl fun b25360 a w s d => ?_
            obtain ⟨rv25362, h25361, u⟩ := bt u
            obtain ⟨Sv25367, d⟩ := w_share (α := Span) d 2 rfl 4 rfl
            obtain ⟨Sv25368, d⟩ := w_share (α := Span) d 0 rfl 1 rfl
            refine cR s (ref08_Minus_ok h25361 d.dom (d.envAt 1 rfl) (d.envAt 0 rfl)) (do_call call36 rfl) rfl ?_
            rintro v25372 Sv25369 w a h25370 ⟨p25363, k25364, c25366, rfl, h25373, h25365⟩ s
            have d := (d.callN h25370 h25373).addE (e := RowA c25366 rv25362) h25365
            refine rz0 1 s rfl fun a s => ?_
            exact ⟨rv25362, c25366, p25363, k25364, Sv25369, u, wj s d [1, 0] [4, 5, 6, 0]⟩
           exact sk ⟨sv24627.1, c24894, p24895, k24896, Sv25271, u, wj s d [0, 1] [0, 1, 2, 3]⟩
          rintro a w ⟨own25355, c25351, p25352, k25353, Sv25354, u, s, d⟩
          refine blk_normal (tn (wp_region_lit (rn0 2 s rfl fun a s => ?_)))
          obtain ⟨m25357, h25356, u⟩ := bt u
          refine sv s (y_assignI rfl h25356) rfl fun a s => ?_
          exact nl ⟨_, io u, c25351, p25352, k25353, Sv25354, wj s d [0, 1] [0, 1, 2, 3]⟩
         refine wp_exit (then_exit (then_exit (blk_exit ?_)))
         obtain rfl := oi u
         have h25374 := hd25029 _ rfl
         subst h25374
         exact tn ⟨c24894, p24895, k24896, Sv24897, wj s d [0, 1] [2, 3, 4, 5]⟩
        rintro a w ⟨c25033, p25034, k25035, Sv25036, s, d⟩
        exact blk_normal (tn ⟨e25032, c25033, p25034, k25035, Sv25036, u, wj s d [0, 1] [0, 1, 2, 3]⟩)
       rintro a w ⟨own24589, c24585, p24586, k24587, Sv24588, u, s, d⟩
       refine tn (wp_region_lit (rn0 2 s rfl fun a s => ?_))
       obtain ⟨k24591, h24590, u⟩ := bt u
       refine sv s (y_assignI rfl h24590) rfl fun a s => ?_
       exact nl ⟨_, io u, c24585, p24586, k24587, Sv24588, wj s d [0, 1] [0, 1, 2, 3]⟩
      refine wp_exit (then_exit (then_exit (blk_exit ?_)))
      obtain rfl := oi u
      have h25376 := hd24136 _ rfl
      subst h25376
      exact tn ⟨c23685, p23686, k23687, Sv23688, wj s d [0, 1] [0, 1, 2, 3]⟩
     rintro a w ⟨c24140, p24141, k24142, Sv24143, s, d⟩
     refine tn (wp_region_lit (rn0 2 s rfl fun a s => ?_))
     obtain ⟨l25378, h25377, u⟩ := bt u
     refine w_appendR (α := Span) s d El52 0 rfl rfl rfl 2 rfl 1 rfl 3 rfl h25377 rfl trivial ?_
     intro p25379 k25380 c25381 a w s d
     refine av s rfl rfl fun a s => ?_
     refine wpList_nil ?_
     refine blk_normal (tn (wp_region_lit (rn0 2 s rfl fun a s => ?_)))
     obtain ⟨j25383, h25382, u⟩ := bt u
     refine sv s (y_assignI rfl h25382) rfl fun a s => ?_
     exact nl ⟨_, io u, c25381, p25379, k25380, Sv24143, wj s d [0] [1, 2, 0]⟩
    refine wp_exit (then_exit (then_exit (blk_exit ?_)))
    obtain rfl := oi u
    have h25385 := hd21324 _ rfl
    subst h25385
    exact tn ⟨c19906, p19907, k19908, Sv19909, wj s d [0] [2, 3, 4]⟩
   rintro a w ⟨c21328, p21329, k21330, Sv21331, s, d⟩
   refine blk_normal (tn (wp_region_lit (rn0 2 s rfl fun a s => ?_)))
   obtain ⟨i25387, h25386, u⟩ := bt u
   refine sv s (y_assignI rfl h25386) rfl fun a s => ?_
   exact nl ⟨_, io u, c21328, p21329, k21330, Sv21331, wj s d [0] [0, 1, 2]⟩
  refine wp_exit (then_exit (then_exit (blk_exit ?_)))
  obtain rfl := oi u
  have h25389 := hd12804 _ rfl
  subst h25389
  exact tn ⟨c8538, p8539, k8540, Sv8541, wj s d [0] [2]⟩
 rintro a w ⟨c12808, p12809, k12810, Sv12811, s, d⟩
 refine tn (sn0 1 s rfl fun a s => ?_)
 obtain ⟨rv25391, h25390, u⟩ := bt u
 obtain ⟨Sv25396, d⟩ := w_share (α := Span) d 0 rfl 0 rfl
 refine cR s (ref08_Normal_ok h25390 d.dom (d.envAt 0 rfl)) (do_call call58 rfl) rfl ?_
 rintro v25400 Sv25397 w a h25398 ⟨p25392, k25393, c25395, rfl, h25401, h25394⟩ s
 have d := (d.callN h25398 h25401).addE (e := RowA c25395 rv25391) h25394
 refine rz0 1 s rfl fun a s => ?_
 obtain rfl := oi u
 exact q1 s rfl (d.ret ⟨p25392, k25393, c25395, rfl, (d.outs [0] (by decide) rfl), (d.envAt 0 rfl)⟩)
theorem ref15_Latest_ok {w0 S0 p2 k3 p6 k7 a1 b5 r} (u : ref15_Latest a1 b5 = some r) (hS : Dm S0 w0) (h4 : (Sq p2 k3 a1).p S0 w0) (h8 : (Sq p6 k7 b5).p S0 w0) : Ck Tryz.prog 45 #[sl p2 k3 a1, sl p6 k7 b5] w0 S0 [] compose_Covered_rd r := by
 refine en 33 func45 rfl hS rfl rfl rfl fun a s d => ?_
 have d := (d.addE h4).addE h8
 refine sz0 2 s rfl fun a s => ?_
 refine sn0 1 s rfl fun a s => ?_
 obtain ⟨rv10, h9, u⟩ := bt u
 refine cR s (ref15_Compose_ok h9 d.dom (d.envAt 1 rfl)) (do_call call39 rfl) rfl ?_
 rintro v18 Sv15 w a h16 ⟨p11, k12, c14, rfl, h19, h13⟩ s
 have d := (d.callN h16 h19).addE (e := RowA c14 rv10.1) h13
 refine rz0 5 s rfl fun a s => ?_
 refine sn0 1 s rfl fun a s => ?_
 obtain ⟨rv21, h20, u⟩ := bt u
 refine cR s (ref15_Compose_ok h20 d.dom (d.envAt 1 rfl)) (do_call call39 rfl) rfl ?_
 rintro v29 Sv26 w a h27 ⟨p22, k23, c25, rfl, h30, h24⟩ s
 have d := (d.callN h27 h30).addE (e := RowA c25 rv21.1) h24
 refine rz0 5 s rfl fun a s => ?_
 refine wp_seq (sn0 3 s rfl fun a s => ?_)
 refine rO 3 22 [] s d rfl rfl rfl rfl rfl fun a s => ?_
 refine nl (cd s u rfl (fun u => ?_) fun u => ?_)
 ·refine sz0 2 s rfl fun a s => ?_
  obtain rfl := oi u
  have d := d.nilRow Span 45
  exact wp_ret (then_ret (ret2 s rfl (rv_tmp rfl) (rv_tmp rfl) (d.ret ⟨none, 0, [], rfl, (d.outs [0] (by decide) rfl), (d.envAt 0 rfl)⟩)))
 refine sk (sn0 2 s rfl fun a s => ?_)
 obtain ⟨rv35, h34, u⟩ := bt u
 obtain ⟨Sv40, d⟩ := w_share (α := Record) d 1 rfl 1 rfl
 obtain ⟨Sv41, d⟩ := w_share (α := Record) d 0 rfl 1 rfl
 refine cR s (ref15_differ_ok h34 d.dom (d.envAt 1 rfl) (d.envAt 0 rfl)) (do_call call69 rfl) rfl ?_
 rintro v45 Sv42 w a h43 ⟨p36, k37, c39, rfl, h46, h38⟩ s
 have d := (d.callN h43 h46).addE (e := RowA c39 rv35) h38
 refine rn0 2 s rfl fun a s => ?_
 obtain ⟨rv48, h47, u⟩ := bt u
 refine cR s (ref15_differ_ok h47 d.dom (d.envAt 1 rfl) (d.envAt 2 rfl)) (do_call call69 rfl) rfl ?_
 rintro v56 Sv53 w a h54 ⟨p49, k50, c52, rfl, h57, h51⟩ s
 have d := (d.callN h54 h57).addE (e := RowA c52 rv48) h51
 obtain ⟨rv59, h58, u⟩ := bt u
 obtain ⟨Sv64, d⟩ := w_share (α := Span) d 1 rfl 1 rfl
 obtain ⟨Sv65, d⟩ := w_share (α := Span) d 0 rfl 1 rfl
 refine cR s (ref08_Union_ok h58 d.dom (d.envAt 1 rfl) (d.envAt 0 rfl)) (do_call call27 rfl) rfl ?_
 rintro v69 Sv66 w a h67 ⟨p60, k61, c63, rfl, h70, h62⟩ s
 have d := (d.callN h67 h70).addE (e := RowA c63 rv59) h62
 refine rz0 2 s rfl fun a s => ?_
 obtain rfl := oi u
 exact wp_ret (ret2 s rfl (rv_tmp rfl) (rv_tmp rfl) (d.ret ⟨p60, k61, c63, rfl, (d.outs [0] (by decide) rfl), (d.envAt 0 rfl)⟩))
abbrev E10_2 (x9 : Int) (rv4145 : (Int × Dice)) (rv4155 : (Int × Dice)) : List Value := [iv x9, iv (w64 (1000000000000 + (w64 (125000 * rv4145.1)))), iv (w64 (1000000000000 + (w64 (250000 * rv4155.1))))]
abbrev E10_1 (x9 : Int) (rv4145 : (Int × Dice)) (rv4155 : (Int × Dice)) : List Int := ([x9, (w64 (1000000000000 + (w64 (125000 * rv4145.1)))), (w64 (1000000000000 + (w64 (250000 * rv4155.1))))] : List Int)
abbrev E10_0 (rv283 : ((List Record) × Dice)) (odd385 : (List Record)) (raw5 : (List Record)) (l392 : (List Record)) : List (List Record) := ([rv283.1, odd385, raw5, l392] : List (List Record))
theorem law15_ComposeExact_ok {w0 S0 p2 k3 p6 k7 t1 raw5 x9 r} (u : law15_ComposeExact t1 raw5 x9 = some r) (hS : Dm S0 w0) (h4 : (Sq p2 k3 t1).p S0 w0) (h8 : (Sq p6 k7 raw5).p S0 w0) : Ck Tryz.prog 10 #[sl p2 k3 t1, sl p6 k7 raw5, iv x9] w0 S0 [] made_Light_rd r := by
 refine en 270 func10 rfl hS rfl rfl rfl fun a s d => ?_
 have d := (d.addE h4).addE h8
 refine sz0 1 s rfl fun a s => ?_
 refine wp_seq (sn0 1 s rfl fun a s => ?_)
 obtain ⟨rv11, h10, u⟩ := bt u
 refine cV s d (made_Light_ok h10 d.bdom (d.bE 1 rfl)) (do_call call11 rfl) rfl fun a w s d => ?_
 refine rn0 2 s rfl fun a s => ?_
 refine rO 4 50 [] s d rfl rfl rfl rfl rfl fun a s => ?_
 refine nl (cd s u rfl (fun u => ?_) fun u => ?_)
 ·refine sr ?_
  obtain ⟨rv28, h27, u⟩ := bt u
  refine cV s d (law15_sane_ok h27 d.bdom) (do_call call12 rfl) rfl fun a w s d => ?_
  refine rz0 1 s rfl fun a s => ?_
  obtain rfl := oi u
  exact wp_ret (then_ret (rt s rfl (d.ret rfl)))
 refine sk (wp_seq (sz0 3 s rfl fun a s => ?_))
 refine wp_block (wp_while (fun sv120 a w => ∃ Sv176, Sl 270 [(0, sl p2 k3 t1), (1, sl p6 k7 raw5), (2, iv x9), (56, sl p6 k7 raw5), (57, iv (raw5.length : Int)), (58, iv sv120)] a ∧ Wd ⟨w0, S0, []⟩ Sv176 [] [Sq p2 k3 t1, Sq p6 k7 raw5] w) 0 u ⟨S0, wj s d [] [1, 0]⟩ ?_)
 repeat clear u
 rintro sv120 a w tv205 ⟨Sv176, s, d⟩ u hd204
 refine sz0 1 s rfl fun a s => ?_
 refine wp_seq (cd s u rfl (fun u => ?_) fun u => ?_)
 ·refine sk (wp_seq (wp_block (sr ?_)))
  obtain ⟨x238, h236, u⟩ := bt u
  obtain ⟨b244, o245, q242, c243, h246, h239, h240, h241, h237⟩ := d.elemV 1 rfl h236
  have hsv247 := s
  have hwv248 := d
  subst h246
  have s := hsv247
  have d := hwv248
  obtain ⟨_, _, _, _, _, _, _, _, _, _, _, _, rfl, rfl, rfl, rfl, rfl, rfl, rfl, rfl, rfl, rfl, rfl, rfl, ⟨p249, n250, k251, rfl, h252⟩⟩ := h237
  obtain rfl := h252.1
  have d := (d.addE (e := SlA p249 _ k251 x238.Samples) h252).addE h241
  refine sv s (y_indexAt runUnderlying27 sizeOf35 rfl rfl h239.1 h239.2 h240) rfl fun a s => ?_
  refine sv s (y_loadEA (j := 0) (d.ceAt 0 rfl) rfl isAgg35 sizeOf35 rfl rfl) rfl fun a s => ?_
  refine wa Z4 s d zeroValue35 fun b253 a w s d => ?_
  refine ws (C35 x238 p249 k251) s d 0 rfl rfl rfl sizeOf35 fun a w s d => ?_
  refine nl (sz 4 [0] s d rfl rfl fun a s => ?_)
  refine cd s u rfl (fun u => ?_) fun u => ?_
  ·refine sr ?_
   obtain ⟨rv264, h263, u⟩ := bt u
   refine cV s d (law15_sane_ok h263 d.bdom) (do_call call12 rfl) rfl fun a w s d => ?_
   refine rz0 1 s rfl fun a s => ?_
   obtain rfl := oi u
   have h270 := hd204 _ rfl
   subst h270
   exact wp_ret (blk_ret (then_ret (then_ret (blk_ret (then_ret (rt s rfl (d.ret rfl)))))))
  refine wp_skip (blk_normal (tn (wp_region_lit (rz0 2 s rfl fun a s => ?_))))
  exact ⟨_, io u, Sv176, wj s d [] [2, 3]⟩
 obtain ⟨rv5017, u, h5018⟩ := map_t u
 have h5018 := (hd204 _ h5018.symm).symm
 subst h5018
 refine wp_exit (then_exit (then_exit (blk_exit (tn (sn0 1 s rfl fun a s => ?_)))))
 obtain ⟨rv272, h271, u⟩ := bt u
 refine cR s (made_Roll_ok h271 d.dom (d.envAt 0 rfl)) (do_call call13 rfl) rfl ?_
 rintro v280 Sv277 w a h278 ⟨b273, p274, k275, rfl, h281, h276⟩ s
 have d := (d.callN h278 h281).addE (e := Sq p274 k275 rv272.L) h276
 refine rz0 1 s rfl fun a s => ?_
 refine sn0 1 s rfl fun a s => ?_
 obtain ⟨rv283, h282, u⟩ := bt u
 refine cR s (made_Dice_Records_ok h282 d.dom (d.ins [0] (by decide) rfl) (d.envAt 0 rfl)) (do_call call14 rfl) rfl ?_
 rintro v294 Sv291 w a h292 ⟨p284, k285, c287, p288, k289, rfl, h295, h286, h290⟩ s
 have d := ((d.callO [0] [] (by decide) rfl h292 h295).addE (e := RowA c287 rv283.1) h286).addE (e := Sq p288 k289 rv283.2.L) h290
 refine mv s rfl rfl fun a s => ?_
 obtain ⟨rv297, h296, u⟩ := bt u
 refine cR s (made_Dice_Records_ok h296 d.dom (d.ins [1] (by decide) rfl) (d.envAt 0 rfl)) (do_call call14 rfl) rfl ?_
 rintro v308 Sv305 w a h306 ⟨p298, k299, c301, p302, k303, rfl, h309, h300, h304⟩ s
 have d := ((d.callO [1] [0] (by decide) rfl h306 h309).addE (e := RowA c301 rv297.1) h300).addE (e := Sq p302 k303 rv297.2.L) h304
 refine rz0 2 s rfl fun a s => ?_
 refine sn0 1 s rfl fun a s => ?_
 obtain ⟨l311, h310, u⟩ := bt u
 have d := d.nilRow Record 35
 refine w_appendR (α := Record) s d El27 0 rfl rfl rfl 0 rfl 3 rfl 4 rfl h310 rfl trivial ?_
 intro p312 k313 c314 a w s d
 refine rz0 1 s rfl fun a s => ?_
 refine wp_seq (sn0 2 s rfl fun a s => ?_)
 obtain ⟨n316, h315, u⟩ := bt u
 refine sv s (y_assignI rfl h315) rfl fun a s => ?_
 refine nl (sz0 2 s rfl fun a s => ?_)
 refine wp_join (fun a w => ∃ (x383 : (List Int)) (x384 : Int) (odd385 : (List Record)) (p377 k378 c379 p380 k381 Sv382 : _), law15_ComposeExact_j1 raw5 x9 rv283 rv297 x383 x384 odd385 = some r ∧ Sl 270 [(1, sl p6 k7 raw5), (2, iv x9), (9, pt b273), (10, sl p284 k285 rv283.1), (11, sl p298 k299 rv297.1), (12, sl p380 k381 odd385)] a ∧ Wd ⟨w0, S0, []⟩ Sv382 [.box b273 [sl p377 k378 x383, iv x384] 75, .row p284 rv283.1.length k285 c287 35 12, .row p298 rv297.1.length k299 c301 35 12, .row p380 odd385.length k381 c379 35 12] [Sq p6 k7 raw5, Sq p377 k378 x383, RowA c287 rv283.1, RowA c301 rv297.1, RowA c379 odd385] w) ?_ ?_
 ·refine cd s u rfl (fun u => ?_) fun u => ?_
  ·refine sn0 2 s rfl fun a s => ?_
   obtain ⟨rv4959, h4958, u⟩ := bt u
   refine cR s (made_Dice_Next_ok h4958 d.dom (d.ins [2] (by decide) rfl) (d.envAt 2 rfl)) (do_call call15 rfl) rfl ?_
   rintro v4966 Sv4963 w a h4964 ⟨p4960, k4961, rfl, h4967, h4962⟩ s
   have d := (d.callO [2] [0, 1, 3] (by decide) rfl h4964 h4967).addE (e := Sq p4960 k4961 rv4959.2.L) h4962
   refine rz0 1 s rfl fun a s => ?_
   refine wp_region_lit (rn0 5 s rfl fun a s => ?_)
   obtain ⟨x4970, h4968, u⟩ := bt u
   obtain ⟨b4977, q4974, c4975, h4978, h4971, h4972, h4976, h4969⟩ := d.elemRV (α := Record) 1 rfl 1 rfl h4968
   have hsv4979 := s
   have hwv4980 := d
   subst h4978
   have s := hsv4979
   have d := hwv4980
   obtain ⟨_, _, _, _, _, _, _, _, _, _, _, _, rfl, rfl, rfl, rfl, rfl, rfl, rfl, rfl, rfl, rfl, rfl, rfl, ⟨p4981, n4982, k4983, rfl, h4984⟩⟩ := h4969
   obtain rfl := h4984.1
   have d := d.addE (e := SlA p4981 _ k4983 x4970.Samples) h4984
   refine sv s (y_indexAt runUnderlying27 sizeOf35 rfl rfl h4971.1 h4971.2 h4972) rfl fun a s => ?_
   refine sv s (y_loadQA (j := 0) (d.ownAt 1 rfl) rfl isAgg35 sizeOf35 h4976 rfl rfl) rfl fun a s => ?_
   obtain ⟨rv4986, h4985, u⟩ := bt u
   refine cR s (made_Dice_OddRecord_ok h4985 d.dom (d.ins [0] (by decide) rfl) (d.envAt 1 rfl) (d.envAt 0 rfl)) (do_call call37 rfl) rfl ?_
   rintro v4997 Sv4994 w a h4995 ⟨p4987, k4988, c4990, p4991, k4992, rfl, h4998, h4989, h4993⟩ s
   have d := ((d.callO [0] [1, 2, 3] (by decide) rfl h4995 h4998).addE (e := RowA c4990 rv4986.1.Samples) h4989).addE (e := Sq p4991 k4992 rv4986.2.L) h4993
   obtain ⟨x5001, h4999, u⟩ := bt u
   obtain ⟨q5005, c5006, h5002, h5003, h5007, h5000⟩ := d.elemRK (α := Record) 2 rfl 4 rfl h4999
   obtain ⟨_, _, _, _, _, _, _, _, _, _, _, _, rfl, rfl, rfl, rfl, rfl, rfl, rfl, rfl, rfl, rfl, rfl, rfl, ⟨p5008, n5009, k5010, rfl, h5011⟩⟩ := h5000
   obtain rfl := h5011.1
   have d := d.addE (e := SlA p5008 _ k5010 x5001.Samples) h5011
   refine sv s (y_indexAt runUnderlying27 sizeOf35 rfl rfl h5002.1 h5002.2 h5003) rfl fun a s => ?_
   obtain ⟨l5013, h5012, u⟩ := bt u
   obtain ⟨Sv5016, d⟩ := w_share (α := Int) d 0 rfl 2 rfl
   refine w_storeF (α := Record) s d 1 rfl 6 rfl h5003 rfl rfl sizeOf35 rfl h5012 ⟨_, _, _, _, _, _, _, _, _, _, _, _, rfl, rfl, rfl, rfl, rfl, rfl, rfl, rfl, rfl, rfl, rfl, rfl, ⟨_, _, _, rfl, d.envAt 0 rfl⟩⟩ trivial ?_
   intro c5014 a w s d
   have h5015 := setM_len h5012
   try have s := s.fl 12 rfl h5015
   try have s := s.fl 83 rfl h5015
   try have s := s.fl 86 rfl h5015
   exact nl ⟨rv4986.2.L, rv4986.2.At, l5013, p4991, k4992, c5014, (ad b4977), k313, Sv5016, u, wj s d [0, 3, 2, 1] [15, 3, 12, 10, 0]⟩
  exact sk ⟨rv297.2.L, rv297.2.At, l311, p302, k303, c314, p312, k313, Sv305, u, wj s d [2, 3, 1, 0] [8, 2, 5, 3, 0]⟩
 rintro a w ⟨x383, x384, odd385, p377, k378, c379, p380, k381, Sv382, u, s, d⟩
 refine tn (wp_seq (sn0 4 s rfl fun a s => ?_))
 obtain ⟨l387, h386, u⟩ := bt u
 have d := d.nilRow Record 35
 refine w_appendR (α := Record) s d El27 0 rfl rfl rfl 0 rfl 2 rfl 3 rfl h386 rfl trivial ?_
 intro p388 k389 c390 a w s d
 refine mv s rfl rfl fun a s => ?_
 obtain ⟨l392, h391, u⟩ := bt u
 refine w_appendR (α := Record) s d El27 0 rfl rfl rfl 0 rfl 3 rfl 5 rfl h391 rfl trivial ?_
 intro p393 k394 c395 a w s d
 obtain ⟨Sv398, d⟩ := w_share (α := Record) d 2 rfl 5 rfl
 obtain ⟨Sv399, d⟩ := w_share (α := Record) d 3 rfl 8 rfl
 obtain ⟨Sv400, d⟩ := w_share (α := Record) d 0 rfl 2 rfl
 refine w_litSlice (α := (List Record)) (vs := [sl p284 k285 rv283.1, sl p380 k381 odd385, sl p6 k7 raw5, sl p393 k394 l392]) (cs := [sl p284 k285 rv283.1, sl p380 k381 odd385, sl p6 k7 raw5, sl p393 k394 l392]) (xs := (E10_0 rv283 odd385 raw5 l392)) s d El70 rfl rfl rfl rfl rfl rfl ⟨⟨_, rfl, ⟨_, _, _, rfl, d.envAt 2 rfl⟩⟩, ⟨⟨_, rfl, ⟨_, _, _, rfl, d.envAt 1 rfl⟩⟩, ⟨⟨_, rfl, ⟨_, _, _, rfl, d.envAt 6 rfl⟩⟩, ⟨⟨_, rfl, ⟨_, _, _, rfl, d.envAt 0 rfl⟩⟩, rfl⟩⟩⟩⟩ rfl trivial rfl fun b397 a w s d => ?_
 refine rz0 2 s rfl fun a s => ?_
 refine wp_block (wp_while (fun sv1934 a w => ∃ p2954 k2955 Sv2956, Sl 270 [(2, iv x9), (9, pt b273), (10, sl p284 k285 rv283.1), (11, sl p298 k299 rv297.1), (99, sl (ad b397) (E10_0 rv283 odd385 raw5 l392).length (E10_0 rv283 odd385 raw5 l392)), (100, iv ((E10_0 rv283 odd385 raw5 l392).length : Int)), (101, iv sv1934.2.2)] a ∧ Wd ⟨w0, S0, []⟩ Sv2956 [.box b273 [sl p2954 k2955 sv1934.1, iv sv1934.2.1] 75, .row p298 rv297.1.length k299 c301 35 12, .row (ad b397) (E10_0 rv283 odd385 raw5 l392).length (E10_0 rv283 odd385 raw5 l392).length [sl p284 k285 rv283.1, sl p380 k381 odd385, sl p6 k7 raw5, sl p393 k394 l392] 27 1] [Sq p284 k285 rv283.1, Sq p2954 k2955 sv1934.1, RowA c301 rv297.1, RowA [sl p284 k285 rv283.1, sl p380 k381 odd385, sl p6 k7 raw5, sl p393 k394 l392] (E10_0 rv283 odd385 raw5 l392)] w) (x383, x384, 0) u ⟨p377, k378, Sv400, wj s d [1, 2, 0] [3, 8, 10, 0]⟩ ?_)
 repeat clear u
 rintro sv1934 a w tv3466 ⟨p2954, k2955, Sv2956, s, d⟩ u hd3465
 refine sz0 1 s rfl fun a s => ?_
 refine wp_seq (cd s u rfl (fun u => ?_) fun u => ?_)
 ·refine sk (wp_seq (wp_block (sr ?_)))
  obtain ⟨x3980, h3978, u⟩ := bt u
  obtain ⟨q3984, c3985, h3981, h3982, h3986, h3979⟩ := d.elemRK (α := (List Record)) 2 rfl 3 rfl h3978
  obtain ⟨_, rfl, ⟨p3987, n3988, k3989, rfl, h3990⟩⟩ := h3979
  obtain rfl := h3990.1
  have d := d.addE (e := SlA p3987 _ k3989 x3980) h3990
  refine sv s (y_indexAt runUnderlying70 sizeOf27 rfl rfl h3981.1 h3981.2 h3982) rfl fun a s => ?_
  refine sv s (y_loadQ1 (j := 0) (d.ownAt 2 rfl) rfl isAgg27 h3986 rfl) rfl fun a s => ?_
  refine rz0 1 s rfl fun a s => ?_
  refine sn0 1 s rfl fun a s => ?_
  obtain ⟨rv3992, h3991, u⟩ := bt u
  refine cR s (compose_Order_ok h3991 d.dom (d.envAt 0 rfl)) (do_call call34 rfl) rfl ?_
  rintro v4000 Sv3997 w a h3998 ⟨p3993, k3994, c3996, rfl, h4001, h3995⟩ s
  have d := (d.callN h3998 h4001).addE (e := RowA c3996 rv3992.1) h3995
  refine rz0 5 s rfl fun a s => ?_
  refine sn0 1 s rfl fun a s => ?_
  obtain ⟨rv4003, h4002, u⟩ := bt u
  refine cR s (ref15_Order_ok h4002 d.dom (d.envAt 1 rfl)) (do_call call38 rfl) rfl ?_
  rintro v4011 Sv4008 w a h4009 ⟨p4004, k4005, c4007, rfl, h4012, h4006⟩ s
  have d := (d.callN h4009 h4012).addE (e := RowA c4007 rv4003.1) h4006
  refine rz0 5 s rfl fun a s => ?_
  refine sn0 1 s rfl fun a s => ?_
  obtain ⟨rv4014, h4013, u⟩ := bt u
  refine cR s (compose_Compose_ok h4013 d.dom (d.envAt 2 rfl)) (do_call call17 rfl) rfl ?_
  rintro v4022 Sv4019 w a h4020 ⟨p4015, k4016, c4018, rfl, h4023, h4017⟩ s
  have d := (d.callN h4020 h4023).addE (e := RowA c4018 rv4014.1) h4017
  refine rz0 5 s rfl fun a s => ?_
  refine sn0 1 s rfl fun a s => ?_
  obtain ⟨rv4025, h4024, u⟩ := bt u
  refine cR s (ref15_Compose_ok h4024 d.dom (d.envAt 3 rfl)) (do_call call39 rfl) rfl ?_
  rintro v4033 Sv4030 w a h4031 ⟨p4026, k4027, c4029, rfl, h4034, h4028⟩ s
  have d := (d.callN h4031 h4034).addE (e := RowA c4029 rv4025.1) h4028
  refine rz0 5 s rfl fun a s => ?_
  refine sn0 1 s rfl fun a s => ?_
  obtain ⟨rv4036, h4035, u⟩ := bt u
  refine cR s (compose_Covered_ok h4035 d.dom (d.envAt 4 rfl)) (do_call call31 rfl) rfl ?_
  rintro v4044 Sv4041 w a h4042 ⟨p4037, k4038, c4040, rfl, h4045, h4039⟩ s
  have d := (d.callN h4042 h4045).addE (e := RowA c4040 rv4036.1) h4039
  refine rz0 5 s rfl fun a s => ?_
  refine sn0 1 s rfl fun a s => ?_
  obtain ⟨rv4047, h4046, u⟩ := bt u
  refine cR s (ref15_Covered_ok h4046 d.dom (d.envAt 5 rfl)) (do_call call40 rfl) rfl ?_
  rintro v4055 Sv4052 w a h4053 ⟨p4048, k4049, c4051, rfl, h4056, h4050⟩ s
  have d := (d.callN h4053 h4056).addE (e := RowA c4051 rv4047.1) h4050
  refine rz0 5 s rfl fun a s => ?_
  refine wp_seq (sn0 4 s rfl fun a s => ?_)
  obtain ⟨c4065, hc4065, u⟩ := bt u
  refine wpl_join 5 (fun a w => ∃ Sv4066, Sl 270 [(2, iv x9), (9, pt b273), (10, sl p284 k285 rv283.1), (11, sl p298 k299 rv297.1), (16, sl p3987 k3989 x3980), (21, sl p4015 k4016 rv4014.1), (22, iv rv4014.2), (23, sl p4026 k4027 rv4025.1), (24, iv rv4025.2), (25, sl p4037 k4038 rv4036.1), (26, iv rv4036.2), (27, sl p4048 k4049 rv4047.1), (28, iv rv4047.2), (99, sl (ad b397) (E10_0 rv283 odd385 raw5 l392).length (E10_0 rv283 odd385 raw5 l392)), (100, iv ((E10_0 rv283 odd385 raw5 l392).length : Int)), (101, iv sv1934.2.2), (143, .bool c4065)] a ∧ Wd ⟨w0, S0, []⟩ Sv4066 [.box b273 [sl p2954 k2955 sv1934.1, iv sv1934.2.1] 75, .row p298 rv297.1.length k299 c301 35 12, .row p4015 rv4014.1.length k4016 c4018 35 12, .row p4026 rv4025.1.length k4027 c4029 35 12, .row p4037 rv4036.1.length k4038 c4040 45 2, .row p4048 rv4047.1.length k4049 c4051 45 2, .row (ad b397) (E10_0 rv283 odd385 raw5 l392).length (E10_0 rv283 odd385 raw5 l392).length [sl p284 k285 rv283.1, sl p380 k381 odd385, sl p6 k7 raw5, sl p393 k394 l392] 27 1] [Sq p284 k285 rv283.1, Sq p3987 k3989 x3980, Sq p2954 k2955 sv1934.1, RowA c301 rv297.1, RowA c4018 rv4014.1, RowA c4029 rv4025.1, RowA c4040 rv4036.1, RowA c4051 rv4047.1, RowA [sl p284 k285 rv283.1, sl p380 k381 odd385, sl p6 k7 raw5, sl p393 k394 l392] (E10_0 rv283 odd385 raw5 l392)] w) ?_ ?_
  ·rcases Bool.eq_false_or_eq_true (rv3992.2 != rv4003.2) with h4064 | h4064
   ·have s := s.bT 138 rfl h4064
    have u := ite_t hc4065 h4064
    refine rn0 5 s rfl fun a s => ?_
    refine wpList_nil ?_
    obtain rfl := oi u
    exact tn ⟨Sv4052, wj s d [6, 7, 3, 2, 1, 0, 8] [7, 6, 8, 9, 3, 2, 1, 0, 10]⟩
   have s := s.bF 138 rfl h4064
   have u := ite_f hc4065 h4064
   refine rn0 2 s rfl fun a s => ?_
   obtain ⟨rv4068, h4067, u⟩ := bt u
   refine st_callR s (ref14_SameList_ok h4067 d.bdom (d.bRow 5 rfl 5 rfl) (d.bRow 4 rfl 4 rfl)) (do_call call18 rfl) ⟨_, rfl, rfl⟩ rfl rfl ?_
   rintro v4072 Sv4069 w a h4070 rfl s
   have d := d.callB h4070
   refine rn0 2 s rfl fun a s => ?_
   refine wpList_nil ?_
   obtain rfl := oi u
   exact tn ⟨Sv4052, wj s d [6, 7, 3, 2, 1, 0, 8] [7, 6, 8, 9, 3, 2, 1, 0, 10]⟩
  rintro a w ⟨Sv4066, s, d⟩
  refine mv s rfl rfl fun a s => ?_
  refine rO 4 144 [] s d rfl rfl rfl rfl rfl fun a s => ?_
  refine mv s rfl rfl fun a s => ?_
  obtain ⟨c4083, hc4083, u⟩ := bt u
  refine wpl_join 5 (fun a w => ∃ Sv4084, Sl 270 [(2, iv x9), (9, pt b273), (10, sl p284 k285 rv283.1), (11, sl p298 k299 rv297.1), (16, sl p3987 k3989 x3980), (25, sl p4037 k4038 rv4036.1), (26, iv rv4036.2), (27, sl p4048 k4049 rv4047.1), (28, iv rv4047.2), (99, sl (ad b397) (E10_0 rv283 odd385 raw5 l392).length (E10_0 rv283 odd385 raw5 l392)), (100, iv ((E10_0 rv283 odd385 raw5 l392).length : Int)), (101, iv sv1934.2.2), (154, .bool c4083)] a ∧ Wd ⟨w0, S0, []⟩ Sv4084 [.box b273 [sl p2954 k2955 sv1934.1, iv sv1934.2.1] 75, .row p298 rv297.1.length k299 c301 35 12, .row p4037 rv4036.1.length k4038 c4040 45 2, .row p4048 rv4047.1.length k4049 c4051 45 2, .row (ad b397) (E10_0 rv283 odd385 raw5 l392).length (E10_0 rv283 odd385 raw5 l392).length [sl p284 k285 rv283.1, sl p380 k381 odd385, sl p6 k7 raw5, sl p393 k394 l392] 27 1] [Sq p284 k285 rv283.1, Sq p3987 k3989 x3980, Sq p2954 k2955 sv1934.1, RowA c301 rv297.1, RowA c4040 rv4036.1, RowA c4051 rv4047.1, RowA [sl p284 k285 rv283.1, sl p380 k381 odd385, sl p6 k7 raw5, sl p393 k394 l392] (E10_0 rv283 odd385 raw5 l392)] w) ?_ ?_
  ·rcases Bool.eq_false_or_eq_true (c4065 || (rv4014.2 != rv4025.2)) with h4082 | h4082
   ·have s := s.bT 149 rfl h4082
    have u := ite_t hc4083 h4082
    refine rn0 5 s rfl fun a s => ?_
    refine wpList_nil ?_
    obtain rfl := oi u
    exact tn ⟨Sv4066, wj s d [0, 1, 4, 5, 6] [0, 1, 2, 3, 6, 7, 8]⟩
   have s := s.bF 149 rfl h4082
   have u := ite_f hc4083 h4082
   refine rn0 2 s rfl fun a s => ?_
   obtain ⟨rv4086, h4085, u⟩ := bt u
   refine st_callR s (ref14_SameList_ok h4085 d.bdom (d.bRow 2 rfl 4 rfl) (d.bRow 3 rfl 5 rfl)) (do_call call18 rfl) ⟨_, rfl, rfl⟩ rfl rfl ?_
   rintro v4090 Sv4087 w a h4088 rfl s
   have d := d.callB h4088
   refine rn0 2 s rfl fun a s => ?_
   refine wpList_nil ?_
   obtain rfl := oi u
   exact tn ⟨Sv4066, wj s d [0, 1, 4, 5, 6] [0, 1, 2, 3, 6, 7, 8]⟩
  rintro a w ⟨Sv4084, s, d⟩
  refine mv s rfl rfl fun a s => ?_
  refine rO 4 155 [] s d rfl rfl rfl rfl rfl fun a s => ?_
  refine mv s rfl rfl fun a s => ?_
  obtain ⟨c4101, hc4101, u⟩ := bt u
  refine wpl_join 5 (fun a w => ∃ Sv4102, Sl 270 [(2, iv x9), (9, pt b273), (10, sl p284 k285 rv283.1), (11, sl p298 k299 rv297.1), (16, sl p3987 k3989 x3980), (99, sl (ad b397) (E10_0 rv283 odd385 raw5 l392).length (E10_0 rv283 odd385 raw5 l392)), (100, iv ((E10_0 rv283 odd385 raw5 l392).length : Int)), (101, iv sv1934.2.2), (165, .bool c4101)] a ∧ Wd ⟨w0, S0, []⟩ Sv4102 [.box b273 [sl p2954 k2955 sv1934.1, iv sv1934.2.1] 75, .row p298 rv297.1.length k299 c301 35 12, .row (ad b397) (E10_0 rv283 odd385 raw5 l392).length (E10_0 rv283 odd385 raw5 l392).length [sl p284 k285 rv283.1, sl p380 k381 odd385, sl p6 k7 raw5, sl p393 k394 l392] 27 1] [Sq p284 k285 rv283.1, Sq p3987 k3989 x3980, Sq p2954 k2955 sv1934.1, RowA c301 rv297.1, RowA [sl p284 k285 rv283.1, sl p380 k381 odd385, sl p6 k7 raw5, sl p393 k394 l392] (E10_0 rv283 odd385 raw5 l392)] w) ?_ ?_
  ·rcases Bool.eq_false_or_eq_true (c4083 || (rv4036.2 != rv4047.2)) with h4100 | h4100
   ·have s := s.bT 160 rfl h4100
    have u := ite_t hc4101 h4100
    refine rn0 5 s rfl fun a s => ?_
    refine wpList_nil ?_
    obtain rfl := oi u
    exact tn ⟨Sv4084, wj s d [0, 1, 4] [0, 1, 2, 3, 6]⟩
   have s := s.bF 160 rfl h4100
   have u := ite_f hc4101 h4100
   refine rn0 2 s rfl fun a s => ?_
   obtain ⟨rv4104, h4103, u⟩ := bt u
   refine st_callR s (ref08_Same_ok h4103 d.bdom (d.bRow 2 rfl 4 rfl) (d.bRow 3 rfl 5 rfl)) (do_call call32 rfl) ⟨_, rfl, rfl⟩ rfl rfl ?_
   rintro v4108 Sv4105 w a h4106 rfl s
   have d := d.callB h4106
   refine rn0 2 s rfl fun a s => ?_
   refine wpList_nil ?_
   obtain rfl := oi u
   exact tn ⟨Sv4084, wj s d [0, 1, 4] [0, 1, 2, 3, 6]⟩
  rintro a w ⟨Sv4102, s, d⟩
  refine mv s rfl rfl fun a s => ?_
  obtain ⟨c4125, hc4125, u⟩ := bt u
  refine wpl_join 6 (fun a w => ∃ Sv4126, Sl 270 [(2, iv x9), (9, pt b273), (10, sl p284 k285 rv283.1), (11, sl p298 k299 rv297.1), (16, sl p3987 k3989 x3980), (99, sl (ad b397) (E10_0 rv283 odd385 raw5 l392).length (E10_0 rv283 odd385 raw5 l392)), (100, iv ((E10_0 rv283 odd385 raw5 l392).length : Int)), (101, iv sv1934.2.2), (172, .bool c4125)] a ∧ Wd ⟨w0, S0, []⟩ Sv4126 [.box b273 [sl p2954 k2955 sv1934.1, iv sv1934.2.1] 75, .row p298 rv297.1.length k299 c301 35 12, .row (ad b397) (E10_0 rv283 odd385 raw5 l392).length (E10_0 rv283 odd385 raw5 l392).length [sl p284 k285 rv283.1, sl p380 k381 odd385, sl p6 k7 raw5, sl p393 k394 l392] 27 1] [Sq p284 k285 rv283.1, Sq p3987 k3989 x3980, Sq p2954 k2955 sv1934.1, RowA c301 rv297.1, RowA [sl p284 k285 rv283.1, sl p380 k381 odd385, sl p6 k7 raw5, sl p393 k394 l392] (E10_0 rv283 odd385 raw5 l392)] w) ?_ ?_
  ·rcases Bool.eq_false_or_eq_true c4101 with h4124 | h4124
   ·have s := s.bT 166 rfl h4124
    have u := ite_t hc4125 h4124
    refine rn0 6 s rfl fun a s => ?_
    refine wpList_nil ?_
    obtain rfl := oi u
    exact tn ⟨Sv4102, wj s d [0, 1, 2] [0, 1, 2, 3, 4]⟩
   have s := s.bF 166 rfl h4124
   have u := ite_f hc4125 h4124
   refine st_val s (y_move rfl) ⟨_, rfl, rfl⟩ rfl rfl fun a s => ?_
   obtain ⟨rv4128, h4127, u⟩ := bt u
   refine st_callR s (compose_Valid_ok h4127 d.bdom (d.bE 1 rfl)) (do_call call41 rfl) ⟨_, rfl, rfl⟩ rfl rfl ?_
   rintro v4132 Sv4129 w a h4130 rfl s
   have d := d.callB h4130
   refine st_val s (y_move rfl) ⟨_, rfl, rfl⟩ rfl rfl fun a s => ?_
   obtain ⟨rv4135, h4134, u⟩ := bt u
   refine st_callR s (ref15_Valid_ok h4134 d.bdom (d.bE 1 rfl)) (do_call call42 rfl) ⟨_, rfl, rfl⟩ rfl rfl ?_
   rintro v4139 Sv4136 w a h4137 rfl s
   have d := d.callB h4137
   refine st_val s (y_neqB runUnderlying4 rfl rfl) ⟨_, rfl, rfl⟩ rfl rfl fun a s => ?_
   refine sv s (y_pickF rfl rfl) rfl fun a s => ?_
   refine wpList_nil ?_
   obtain rfl := oi u
   exact tn ⟨Sv4102, wj s d [0, 1, 2] [0, 1, 2, 3, 4]⟩
  rintro a w ⟨Sv4126, s, d⟩
  refine nl (cd s u rfl (fun u => ?_) fun u => ?_)
  ·refine sz0 1 s rfl fun a s => ?_
   obtain rfl := oi u
   have h4143 := hd3465 _ rfl
   subst h4143
   exact wp_ret (then_ret (blk_ret (then_ret (then_ret (blk_ret (then_ret (rt s rfl (d.ret rfl))))))))
  refine sk (wp_seq (sn0 2 s rfl fun a s => ?_))
  obtain ⟨rv4145, h4144, u⟩ := bt u
  refine cR s (made_Dice_Next_ok h4144 d.dom (d.ins [0] (by decide) rfl) (d.envAt 2 rfl)) (do_call call15 rfl) rfl ?_
  rintro v4152 Sv4149 w a h4150 ⟨p4146, k4147, rfl, h4153, h4148⟩ s
  have d := (d.callO [0] [1, 2] (by decide) rfl h4150 h4153).addE (e := Sq p4146 k4147 rv4145.2.L) h4148
  refine rn0 3 s rfl fun a s => ?_
  obtain ⟨rv4155, h4154, u⟩ := bt u
  refine cR s (made_Dice_Next_ok h4154 d.dom (d.ins [0] (by decide) rfl) (d.envAt 0 rfl)) (do_call call15 rfl) rfl ?_
  rintro v4162 Sv4159 w a h4160 ⟨p4156, k4157, rfl, h4163, h4158⟩ s
  have d := (d.callO [0] [1, 2] (by decide) rfl h4160 h4163).addE (e := Sq p4156 k4157 rv4155.2.L) h4158
  refine rn0 2 s rfl fun a s => ?_
  refine w_litSlice (α := Int) (vs := (E10_2 x9 rv4145 rv4155)) (cs := (E10_2 x9 rv4145 rv4155)) (xs := (E10_1 x9 rv4145 rv4155)) s d El22 rfl rfl rfl rfl rfl rfl ⟨⟨_, rfl, rfl⟩, ⟨⟨_, rfl, rfl⟩, ⟨⟨_, rfl, rfl⟩, rfl⟩⟩⟩ rfl trivial rfl fun b4165 a w s d => ?_
  refine rz0 2 s rfl fun a s => ?_
  refine wp_block (wp_while (fun sv4252 a w => ∃ Sv4308, Sl 270 [(2, iv x9), (9, pt b273), (10, sl p284 k285 rv283.1), (11, sl p298 k299 rv297.1), (16, sl p3987 k3989 x3980), (99, sl (ad b397) (E10_0 rv283 odd385 raw5 l392).length (E10_0 rv283 odd385 raw5 l392)), (100, iv ((E10_0 rv283 odd385 raw5 l392).length : Int)), (101, iv sv1934.2.2), (182, sl (ad b4165) (E10_1 x9 rv4145 rv4155).length (E10_1 x9 rv4145 rv4155)), (183, iv ((E10_1 x9 rv4145 rv4155).length : Int)), (184, iv sv4252)] a ∧ Wd ⟨w0, S0, []⟩ Sv4308 [.box b273 (C75 rv4155.2 p4156 k4157) 75, .row p298 rv297.1.length k299 c301 35 12, .row (ad b397) (E10_0 rv283 odd385 raw5 l392).length (E10_0 rv283 odd385 raw5 l392).length [sl p284 k285 rv283.1, sl p380 k381 odd385, sl p6 k7 raw5, sl p393 k394 l392] 27 1, .row (ad b4165) (E10_1 x9 rv4145 rv4155).length (E10_1 x9 rv4145 rv4155).length (E10_2 x9 rv4145 rv4155) 3 1] [Sq p284 k285 rv283.1, Sq p3987 k3989 x3980, Sq p4156 k4157 rv4155.2.L, RowA c301 rv297.1, RowA [sl p284 k285 rv283.1, sl p380 k381 odd385, sl p6 k7 raw5, sl p393 k394 l392] (E10_0 rv283 odd385 raw5 l392), RowA (E10_2 x9 rv4145 rv4155) (E10_1 x9 rv4145 rv4155)] w) 0 u ⟨Sv4159, wj s d [1, 2, 3, 0] [3, 4, 1, 6, 7, 0]⟩ ?_)
  repeat clear u
  rintro sv4252 a w tv4337 ⟨Sv4308, s, d⟩ u hd4336
  refine sz0 1 s rfl fun a s => ?_
  refine wp_seq (cd s u rfl (fun u => ?_) fun u => ?_)
  ·refine sk (wp_seq (wp_block (sr ?_)))
   obtain ⟨x4370, h4368, u⟩ := bt u
   obtain ⟨q4374, c4375, h4371, h4372, h4376, h4369⟩ := d.elemRK (α := Int) 3 rfl 5 rfl h4368
   obtain ⟨_, rfl, rfl⟩ := h4369
   refine sv s (y_indexAt runUnderlying22 sizeOf3 rfl rfl h4371.1 h4371.2 h4372) rfl fun a s => ?_
   refine sv s (y_loadQ1 (j := 0) (d.ownAt 3 rfl) rfl isAgg3 h4376 rfl) rfl fun a s => ?_
   refine rz0 1 s rfl fun a s => ?_
   refine sn0 2 s rfl fun a s => ?_
   obtain ⟨rv4378, h4377, u⟩ := bt u
   refine cV s d (compose_Value_ok h4377 d.bdom (d.bE 1 rfl)) (do_call call24 rfl) rfl fun a w s d => ?_
   refine rz0 5 s rfl fun a s => ?_
   refine sn0 2 s rfl fun a s => ?_
   obtain ⟨rv4385, h4384, u⟩ := bt u
   refine cV s d (ref15_Value_ok h4384 d.bdom (d.bE 1 rfl)) (do_call call43 rfl) rfl fun a w s d => ?_
   refine rz0 5 s rfl fun a s => ?_
   refine sn0 4 s rfl fun a s => ?_
   refine wpl_join 4 (fun a w1 => w = w1 ∧ Sl 270 [(2, iv x9), (9, pt b273), (10, sl p284 k285 rv283.1), (11, sl p298 k299 rv297.1), (16, sl p3987 k3989 x3980), (99, sl (ad b397) (E10_0 rv283 odd385 raw5 l392).length (E10_0 rv283 odd385 raw5 l392)), (100, iv ((E10_0 rv283 odd385 raw5 l392).length : Int)), (101, iv sv1934.2.2), (182, sl (ad b4165) (E10_1 x9 rv4145 rv4155).length (E10_1 x9 rv4145 rv4155)), (183, iv ((E10_1 x9 rv4145 rv4155).length : Int)), (184, iv sv4252), (207, .bool ((rv4378.1 != rv4385.1) || (!(rv4378.2 == rv4385.2))))] a) ?_ ?_
   ·rcases Bool.eq_false_or_eq_true (rv4378.1 != rv4385.1) with h4391 | h4391
    ·have s := s.bT 203 rfl h4391
     refine rz0 4 s rfl fun a s => ?_
     exact ⟨rfl, (s.fix 207 (.bool ((rv4378.1 != rv4385.1) || (!(rv4378.2 == rv4385.2)))) rfl (or_t h4391)).weaken _ ⟨rfl, rfl, rfl, rfl, rfl, rfl, rfl, rfl, rfl, rfl, rfl, rfl, trivial⟩⟩
    have s := s.bF 203 rfl h4391
    refine rn0 2 s rfl fun a s => ?_
    refine st_val s (y_neqB runUnderlying4 rfl rfl) ⟨_, rfl, rfl⟩ rfl rfl fun a s => ?_
    refine rz0 1 s rfl fun a s => ?_
    exact ⟨rfl, (s.fix 207 (.bool ((rv4378.1 != rv4385.1) || (!(rv4378.2 == rv4385.2)))) rfl (or_f h4391)).weaken _ ⟨rfl, rfl, rfl, rfl, rfl, rfl, rfl, rfl, rfl, rfl, rfl, rfl, trivial⟩⟩
   rintro a w1 ⟨h4396, s⟩
   subst h4396
   refine nl (cd s u rfl (fun u => ?_) fun u => ?_)
   ·refine sz0 1 s rfl fun a s => ?_
    obtain rfl := oi u
    have h4394 := hd4336 _ rfl
    subst h4394
    have h4395 := hd3465 _ rfl
    subst h4395
    exact wp_ret (blk_ret (then_ret (then_ret (blk_ret (then_ret (blk_ret (then_ret (then_ret (blk_ret (then_ret (rt s rfl (d.ret rfl))))))))))))
   refine wp_skip (blk_normal (tn (wp_region_lit (rz0 2 s rfl fun a s => ?_))))
   exact ⟨_, io u, Sv4308, wj s d [0, 1, 2, 3] [0, 1, 2, 3, 4, 5]⟩
  obtain ⟨rv4946, u, h4947⟩ := map_t u
  have h4947 := (hd4336 _ h4947.symm).symm
  subst h4947
  refine wp_exit (then_exit (then_exit (blk_exit (tn (wp_seq (sn0 1 s rfl fun a s => ?_))))))
  obtain ⟨l4398, h4397, u⟩ := bt u
  have d := d.nilRow Record 35
  refine w_appendR (α := Record) s d El27 0 rfl rfl rfl 0 rfl 2 rfl 4 rfl h4397 rfl trivial ?_
  intro p4399 k4400 c4401 a w s d
  refine mv s rfl rfl fun a s => ?_
  obtain ⟨l4403, h4402, u⟩ := bt u
  refine w_appendE (α := Record) s d El27 0 rfl rfl rfl 0 rfl 2 rfl h4402 rfl trivial ?_
  intro p4404 k4405 c4406 a w s d
  refine rz0 2 s rfl fun a s => ?_
  refine wp_block (wp_while (fun sv4592 a w => ∃ Sv4714, Sl 270 [(2, iv x9), (9, pt b273), (10, sl p284 k285 rv283.1), (11, sl p298 k299 rv297.1), (16, sl p3987 k3989 x3980), (99, sl (ad b397) (E10_0 rv283 odd385 raw5 l392).length (E10_0 rv283 odd385 raw5 l392)), (100, iv ((E10_0 rv283 odd385 raw5 l392).length : Int)), (101, iv sv1934.2.2), (212, sl p4404 k4405 l4403), (213, iv (l4403.length : Int)), (214, iv sv4592)] a ∧ Wd ⟨w0, S0, []⟩ Sv4714 [.box b273 (C75 rv4155.2 p4156 k4157) 75, .row p298 rv297.1.length k299 c301 35 12, .row (ad b397) (E10_0 rv283 odd385 raw5 l392).length (E10_0 rv283 odd385 raw5 l392).length [sl p284 k285 rv283.1, sl p380 k381 odd385, sl p6 k7 raw5, sl p393 k394 l392] 27 1, .row p4404 l4403.length k4405 c4406 35 12] [Sq p284 k285 rv283.1, Sq p3987 k3989 x3980, Sq p4156 k4157 rv4155.2.L, RowA c301 rv297.1, RowA [sl p284 k285 rv283.1, sl p380 k381 odd385, sl p6 k7 raw5, sl p393 k394 l392] (E10_0 rv283 odd385 raw5 l392), RowA c4406 l4403] w) 0 u ⟨Sv4308, wj s d [1, 2, 3, 0] [3, 4, 5, 6, 7, 0]⟩ ?_)
  repeat clear u
  rintro sv4592 a w tv4776 ⟨Sv4714, s, d⟩ u hd4775
  refine sz0 1 s rfl fun a s => ?_
  refine wp_seq (cd s u rfl (fun u => ?_) fun u => ?_)
  ·refine sk (wp_seq (wp_block (sr ?_)))
   obtain ⟨x4842, h4840, u⟩ := bt u
   obtain ⟨b4849, q4846, c4847, h4850, h4843, h4844, h4848, h4841⟩ := d.elemRV (α := Record) 3 rfl 5 rfl h4840
   have hsv4851 := s
   have hwv4852 := d
   subst h4850
   have s := hsv4851
   have d := hwv4852
   obtain ⟨_, _, _, _, _, _, _, _, _, _, _, _, rfl, rfl, rfl, rfl, rfl, rfl, rfl, rfl, rfl, rfl, rfl, rfl, ⟨p4853, n4854, k4855, rfl, h4856⟩⟩ := h4841
   obtain rfl := h4856.1
   have d := d.addE (e := SlA p4853 _ k4855 x4842.Samples) h4856
   refine sv s (y_indexAt runUnderlying27 sizeOf35 rfl rfl h4843.1 h4843.2 h4844) rfl fun a s => ?_
   refine sv s (y_loadQA (j := 0) (d.ownAt 3 rfl) rfl isAgg35 sizeOf35 h4848 rfl rfl) rfl fun a s => ?_
   refine wa Z4 s d zeroValue35 fun b4857 a w s d => ?_
   refine ws (C35 x4842 p4853 k4855) s d 0 rfl rfl rfl sizeOf35 fun a w s d => ?_
   refine nl (sn 2 [0] s d rfl rfl fun a s => ?_)
   obtain ⟨rv4859, h4858, u⟩ := bt u
   refine cR s (compose_Insert_ok h4858 d.dom (d.envAt 2 rfl) (d.envAt 0 rfl)) (do_call call33 rfl) rfl ?_
   rintro v4867 Sv4864 w a h4865 ⟨p4860, k4861, c4863, rfl, h4868, h4862⟩ s
   have d := (d.callN h4865 h4868).addE (e := RowA c4863 rv4859.1) h4862
   refine rz0 7 s rfl fun a s => ?_
   refine sn 2 [1] s d rfl rfl fun a s => ?_
   obtain ⟨rv4870, h4869, u⟩ := bt u
   refine cR s (ref15_Insert_ok h4869 d.dom (d.envAt 3 rfl) (d.envAt 1 rfl)) (do_call call44 rfl) rfl ?_
   rintro v4878 Sv4875 w a h4876 ⟨p4871, k4872, c4874, rfl, h4879, h4873⟩ s
   have d := (d.callN h4876 h4879).addE (e := RowA c4874 rv4870.1) h4873
   refine rz0 7 s rfl fun a s => ?_
   refine sn0 2 s rfl fun a s => ?_
   refine sv s (y_neqB runUnderlying4 rfl rfl) rfl fun a s => ?_
   refine mv s rfl rfl fun a s => ?_
   refine rO 4 235 [] s d rfl rfl rfl rfl rfl fun a s => ?_
   refine mv s rfl rfl fun a s => ?_
   obtain ⟨c4889, hc4889, u⟩ := bt u
   refine wpl_join 5 (fun a w => ∃ Sv4890, Sl 270 [(2, iv x9), (9, pt b273), (10, sl p284 k285 rv283.1), (11, sl p298 k299 rv297.1), (16, sl p3987 k3989 x3980), (99, sl (ad b397) (E10_0 rv283 odd385 raw5 l392).length (E10_0 rv283 odd385 raw5 l392)), (100, iv ((E10_0 rv283 odd385 raw5 l392).length : Int)), (101, iv sv1934.2.2), (212, sl (ad b4849) k4405 l4403), (213, iv (l4403.length : Int)), (214, iv sv4592), (245, .bool c4889)] a ∧ Wd ⟨w0, S0, []⟩ Sv4890 [.box b273 (C75 rv4155.2 p4156 k4157) 75, .row p298 rv297.1.length k299 c301 35 12, .row (ad b397) (E10_0 rv283 odd385 raw5 l392).length (E10_0 rv283 odd385 raw5 l392).length [sl p284 k285 rv283.1, sl p380 k381 odd385, sl p6 k7 raw5, sl p393 k394 l392] 27 1, .row (ad b4849) l4403.length k4405 c4406 35 12] [Sq p284 k285 rv283.1, Sq p3987 k3989 x3980, Sq p4156 k4157 rv4155.2.L, RowA c301 rv297.1, RowA [sl p284 k285 rv283.1, sl p380 k381 odd385, sl p6 k7 raw5, sl p393 k394 l392] (E10_0 rv283 odd385 raw5 l392), RowA c4406 l4403] w) ?_ ?_
   ·rcases Bool.eq_false_or_eq_true ((!(rv4859.2.1 == rv4870.2.1)) || (rv4859.2.2 != rv4870.2.2)) with h4888 | h4888
    ·have s := s.bT 240 rfl h4888
     have u := ite_t hc4889 h4888
     refine rn0 5 s rfl fun a s => ?_
     refine wpList_nil ?_
     obtain rfl := oi u
     exact tn ⟨Sv4875, wj s d [3, 4, 5, 6] [3, 4, 5, 6, 7, 8]⟩
    have s := s.bF 240 rfl h4888
    have u := ite_f hc4889 h4888
    refine rn0 2 s rfl fun a s => ?_
    obtain ⟨rv4892, h4891, u⟩ := bt u
    refine st_callR s (ref14_SameList_ok h4891 d.bdom (d.bRow 1 rfl 1 rfl) (d.bRow 0 rfl 0 rfl)) (do_call call18 rfl) ⟨_, rfl, rfl⟩ rfl rfl ?_
    rintro v4896 Sv4893 w a h4894 rfl s
    have d := d.callB h4894
    refine rn0 2 s rfl fun a s => ?_
    refine wpList_nil ?_
    obtain rfl := oi u
    exact tn ⟨Sv4875, wj s d [3, 4, 5, 6] [3, 4, 5, 6, 7, 8]⟩
   rintro a w ⟨Sv4890, s, d⟩
   refine nl (cd s u rfl (fun u => ?_) fun u => ?_)
   ·refine sz0 1 s rfl fun a s => ?_
    obtain rfl := oi u
    have h4900 := hd4775 _ rfl
    subst h4900
    have h4901 := hd3465 _ rfl
    subst h4901
    exact wp_ret (blk_ret (then_ret (then_ret (blk_ret (then_ret (blk_ret (then_ret (then_ret (blk_ret (then_ret (rt s rfl (d.ret rfl))))))))))))
   refine wp_skip (blk_normal (tn (wp_region_lit (rz0 2 s rfl fun a s => ?_))))
   exact ⟨_, io u, Sv4890, wj s d [0, 1, 2, 3] [0, 1, 2, 3, 4, 5]⟩
  obtain ⟨rv4944, u, h4945⟩ := map_t u
  have h4945 := (hd4775 _ h4945.symm).symm
  subst h4945
  refine wp_exit (then_exit (then_exit (blk_exit (tn (sn0 2 s rfl fun a s => ?_)))))
  obtain ⟨rv4903, h4902, u⟩ := bt u
  refine cR s (compose_Latest_ok h4902 d.dom (d.envAt 0 rfl) (d.envAt 1 rfl)) (do_call call35 rfl) rfl ?_
  rintro v4911 Sv4908 w a h4909 ⟨p4904, k4905, c4907, rfl, h4912, h4906⟩ s
  have d := (d.callN h4909 h4912).addE (e := RowA c4907 rv4903.1) h4906
  refine rz0 5 s rfl fun a s => ?_
  refine sn0 2 s rfl fun a s => ?_
  obtain ⟨rv4914, h4913, u⟩ := bt u
  refine cR s (ref15_Latest_ok h4913 d.dom (d.envAt 1 rfl) (d.envAt 2 rfl)) (do_call call45 rfl) rfl ?_
  rintro v4922 Sv4919 w a h4920 ⟨p4915, k4916, c4918, rfl, h4923, h4917⟩ s
  have d := (d.callN h4920 h4923).addE (e := RowA c4918 rv4914.1) h4917
  refine rz0 5 s rfl fun a s => ?_
  refine sn0 4 s rfl fun a s => ?_
  obtain ⟨c4932, hc4932, u⟩ := bt u
  refine wpl_join 5 (fun a w => ∃ Sv4933, Sl 270 [(2, iv x9), (9, pt b273), (10, sl p284 k285 rv283.1), (11, sl p298 k299 rv297.1), (99, sl (ad b397) (E10_0 rv283 odd385 raw5 l392).length (E10_0 rv283 odd385 raw5 l392)), (100, iv ((E10_0 rv283 odd385 raw5 l392).length : Int)), (101, iv sv1934.2.2), (267, .bool c4932)] a ∧ Wd ⟨w0, S0, []⟩ Sv4933 [.box b273 (C75 rv4155.2 p4156 k4157) 75, .row p298 rv297.1.length k299 c301 35 12, .row (ad b397) (E10_0 rv283 odd385 raw5 l392).length (E10_0 rv283 odd385 raw5 l392).length [sl p284 k285 rv283.1, sl p380 k381 odd385, sl p6 k7 raw5, sl p393 k394 l392] 27 1] [Sq p284 k285 rv283.1, Sq p4156 k4157 rv4155.2.L, RowA c301 rv297.1, RowA [sl p284 k285 rv283.1, sl p380 k381 odd385, sl p6 k7 raw5, sl p393 k394 l392] (E10_0 rv283 odd385 raw5 l392)] w) ?_ ?_
  ·rcases Bool.eq_false_or_eq_true (rv4903.2 != rv4914.2) with h4931 | h4931
   ·have s := s.bT 262 rfl h4931
    have u := ite_t hc4932 h4931
    refine rn0 5 s rfl fun a s => ?_
    refine wpList_nil ?_
    obtain rfl := oi u
    exact tn ⟨Sv4919, wj s d [2, 3, 4] [2, 4, 5, 6]⟩
   have s := s.bF 262 rfl h4931
   have u := ite_f hc4932 h4931
   refine rn0 2 s rfl fun a s => ?_
   obtain ⟨rv4935, h4934, u⟩ := bt u
   refine st_callR s (ref08_Same_ok h4934 d.bdom (d.bRow 1 rfl 1 rfl) (d.bRow 0 rfl 0 rfl)) (do_call call32 rfl) ⟨_, rfl, rfl⟩ rfl rfl ?_
   rintro v4939 Sv4936 w a h4937 rfl s
   have d := d.callB h4937
   refine rn0 2 s rfl fun a s => ?_
   refine wpList_nil ?_
   obtain rfl := oi u
   exact tn ⟨Sv4919, wj s d [2, 3, 4] [2, 4, 5, 6]⟩
  rintro a w ⟨Sv4933, s, d⟩
  refine nl (cd s u rfl (fun u => ?_) fun u => ?_)
  ·refine sz0 1 s rfl fun a s => ?_
   obtain rfl := oi u
   have h4943 := hd3465 _ rfl
   subst h4943
   exact wp_ret (blk_ret (then_ret (then_ret (blk_ret (then_ret (rt s rfl (d.ret rfl)))))))
  refine wp_skip (blk_normal (tn (wp_region_lit (rz0 2 s rfl fun a s => ?_))))
  exact ⟨_, io u, p4156, k4157, Sv4933, wj s d [0, 1, 2] [0, 1, 2, 3]⟩
 obtain ⟨rv4955, u, h4956⟩ := map_t u
 have h4956 := (hd3465 _ h4956.symm).symm
 subst h4956
 refine wp_exit (then_exit (then_exit (blk_exit (tn (sr ?_)))))
 obtain ⟨rv4949, h4948, u⟩ := bt u
 refine cV s d (law15_sane_ok h4948 d.bdom) (do_call call12 rfl) rfl fun a w s d => ?_
 refine rz0 1 s rfl fun a s => ?_
 obtain rfl := oi u
 exact q1 s rfl (d.ret rfl)
end Go.Proofs.YthdimlepjpnncaaGreat.Wk

/- Each Go function as a plain program over lists and numbers (none: a panic, or no end). Printed by a program of ours out of the translation. -/
import Derived.Test.YtljdiobhmenjgaaShData
namespace Go.Proofs.Ytljdiobhmenjgaa.Sh
open Go
set_option linter.unusedVariables false

-- seismonet/seismonetmade.Light
noncomputable def made_Light (l1 : (List Int)) : Option Bool :=
  some (decide ((l1.length : Int) ≤ 500))

-- seismonet/link.New
noncomputable def link_New : Option Wire :=
  some (⟨0, 0, ([] : List Transit)⟩ : Wire)

-- seismonet/link.in
noncomputable def link_in (n1 : Int) (low2 : Int) (high3 : Int) : Option Bool :=
  some ((decide (low2 ≤ n1)) && (decide (n1 ≤ high3)))

-- cmp.Or[int]
noncomputable def cmp_Or_int_l2 (vals1 : (List Int)) (sv55 : Int) : Option (Int ⊕ Int) :=
  (if (decide (sv55 < (vals1.length : Int))) = true then
    (ix vals1 sv55).bind fun x125 =>
    (if (x125 != 0) = true then
      some (Sum.inr x125)
    else
      some (Sum.inl (w64 (sv55 + 1))))
  else
    Option.map Sum.inr (some 0))
noncomputable def cmp_Or_int (vals1 : (List Int)) : Option Int :=
  whileM (cmp_Or_int_l2 vals1) (0)

-- seismonet/link.order
noncomputable def link_order (a1 : Transit) (b2 : Transit) : Option Int :=
  (cmp_Or_int ([(w64 (a1.At - b2.At)), (w64 (a1.Order - b2.Order))] : List Int)).bind fun rv8 =>
  some rv8

-- seismonet/link.Valid
noncomputable def link_Valid_l2 (wv1 : Wire) (sv143 : Int) : Option (Int ⊕ Bool) :=
  (if (decide (sv143 < (wv1.Items.length : Int))) = true then
    (ix wv1.Items sv143).bind fun x293 =>
    (if (decide (4096 < (x293.Data.size : Int))) = true then
      some true
    else
      (link_in x293.At (w64 (wv1.Now + 1)) 2199023255552).bind fun rv306 =>
      some (!rv306)).bind fun c307 =>
    (if c307 = true then
      some true
    else
      (link_in x293.Order 0 (w64 (wv1.Order - 1))).bind fun rv309 =>
      some (!rv309)).bind fun c310 =>
    (if c310 = true then
      some true
    else
      (if (decide (0 < sv143)) = true then
        (ix wv1.Items (w64 (sv143 - 1))).bind fun x313 =>
        (link_order x313 x293).bind fun rv320 =>
        some (decide (0 ≤ rv320))
      else
        some false).bind fun c321 =>
      some c321).bind fun c322 =>
    (if c322 = true then
      some (Sum.inr false)
    else
      some (Sum.inl (w64 (sv143 + 1))))
  else
    Option.map Sum.inr (some true))
noncomputable def link_Valid (wv1 : Wire) : Option Bool :=
  (link_in wv1.Now 0 1099511627776).bind fun rv7 =>
  ((if (!rv7) = true then
    some true
  else
    (link_in wv1.Order 0 1099511627776).bind fun rv24 =>
    some (!rv24))).bind fun c21 =>
  (if (c21 || (decide (1024 < (wv1.Items.length : Int)))) = true then
    some false
  else
    whileM (link_Valid_l2 wv1) (0))

-- seismonet/link.ValidFault
noncomputable def link_ValidFault (f1 : Fault) : Option Bool :=
  (link_in f1.Delay 0 1048576).bind fun rv4 =>
  ((if rv4 = true then
    (link_in f1.Copies 0 8).bind fun rv21 =>
    some rv21
  else
    some false)).bind fun c18 =>
  some c18

-- slices.Clone[[]seismonet/api.Transit,seismonet/api.Transit]
noncomputable def slices_Clone_Lapi_Transit_api_Transit (s1 : (List Transit)) : Option (List Transit) :=
  (appM 32 ([] : List Transit) s1).bind fun l11 =>
  some l11

-- slices.BinarySearchFunc[[]seismonet/api.Transit,seismonet/api.Transit,seismonet/api.Transit]
noncomputable def slices_BinarySearchFunc_Lapi_Transit_api_Transit_api_Transit_j1 (i159 : Int) (j160 : Int) : Option ((Int × Int) ⊕ Int) :=
  some (Sum.inl (i159, j160))
noncomputable def slices_BinarySearchFunc_Lapi_Transit_api_Transit_api_Transit_l1 (x1 : (List Transit)) (target5 : Transit) (cmp6 : Transit → Transit → Option Int) (sv14 : (Int × Int)) : Option ((Int × Int) ⊕ Int) :=
  (if (decide (sv14.1 < sv14.2)) = true then
    (shrM .u64 (IntKind.u64.wrap (w64 (sv14.1 + sv14.2))) 1).bind fun shr132 =>
    (some (w64 shr132)).bind fun h134 =>
    (ix x1 h134).bind fun x137 =>
    (cmp6 x137 target5).bind fun rv149 =>
    (if (decide (rv149 < 0)) = true then
      (some (w64 (h134 + 1))).bind fun i163 =>
      slices_BinarySearchFunc_Lapi_Transit_api_Transit_api_Transit_j1 i163 sv14.2
    else
      slices_BinarySearchFunc_Lapi_Transit_api_Transit_api_Transit_j1 sv14.1 h134)
  else
    some (Sum.inr sv14.1))
noncomputable def slices_BinarySearchFunc_Lapi_Transit_api_Transit_api_Transit (x1 : (List Transit)) (target5 : Transit) (cmp6 : Transit → Transit → Option Int) : Option (Int × Bool) :=
  (some (x1.length : Int)).bind fun n13 =>
  (whileM (slices_BinarySearchFunc_Lapi_Transit_api_Transit_api_Transit_l1 x1 target5 cmp6) (0, n13)).bind fun e101 =>
  (if (decide (e101 < n13)) = true then
    (ix x1 e101).bind fun x167 =>
    (cmp6 x167 target5).bind fun rv179 =>
    some (rv179 == 0)
  else
    some false).bind fun c180 =>
  some (e101, c180)

-- slices.Insert[[]seismonet/api.Transit,seismonet/api.Transit]
noncomputable def slices_Insert_Lapi_Transit_api_Transit (s1 : (List Transit)) (i6 : Int) (v7 : (List Transit)) : Option ((List Transit) × (List Transit)) :=
  (subM s1 i6 (s1.length : Int)).bind fun l16 =>
  (some (v7.length : Int)).bind fun m18 =>
  (if (m18 == 0) = true then
    some (s1, v7)
  else
    (some (s1.length : Int)).bind fun n22 =>
    (if (i6 == n22) = true then
      (appM 32 s1 v7).bind fun l31 =>
      some (l31, v7)
    else
      (subM s1 0 i6).bind fun l74 =>
      (appZ 32 ((⟨0, 0, ByteArray.empty⟩ : Transit) : Transit) l74 (w64 ((w64 (n22 + m18)) - i6))).bind fun l76 =>
      (subM l76 i6 (l76.length : Int)).bind fun l84 =>
      (some (copyM l76 i6 (l76.length : Int) v7)).bind fun l85 =>
      (subM l85 (w64 (i6 + m18)) (l85.length : Int)).bind fun l96 =>
      (subM s1 i6 (s1.length : Int)).bind fun l101 =>
      (some (copyM l85 (w64 (i6 + m18)) (l85.length : Int) l101)).bind fun l102 =>
      some (l102, v7)))

-- seismonet/link.Send
noncomputable def link_Send_l1 (wv1 : Wire) (data5 : ByteArray) (f6 : Fault) (copies40 : Int) (sv56 : ((List Transit) × Int)) : Option (((List Transit) × Int) ⊕ (List Transit)) :=
  (if (decide (sv56.2 < copies40)) = true then
    (slices_BinarySearchFunc_Lapi_Transit_api_Transit_api_Transit sv56.1 (⟨(w64 ((w64 ((w64 (wv1.Now + 1)) + f6.Delay)) + sv56.2)), wv1.Order, data5⟩ : Transit) link_order).bind fun rv184 =>
    (slices_Insert_Lapi_Transit_api_Transit sv56.1 rv184.1 ([(⟨(w64 ((w64 ((w64 (wv1.Now + 1)) + f6.Delay)) + sv56.2)), wv1.Order, data5⟩ : Transit)] : List Transit)).bind fun rv193 =>
    some (Sum.inl (rv193.1, (w64 (sv56.2 + 1))))
  else
    some (Sum.inr sv56.1))
noncomputable def link_Send_j1 (wv1 : Wire) (data5 : ByteArray) (f6 : Fault) (copies40 : Int) : Option (Wire × Int) :=
  (if (((decide (4096 < (data5.size : Int))) || (wv1.Order == 1099511627776)) || (decide (1024 < (w64 ((wv1.Items.length : Int) + copies40))))) = true then
    some ((⟨0, 0, ([] : List Transit)⟩ : Wire), 8)
  else
    (slices_Clone_Lapi_Transit_api_Transit wv1.Items).bind fun rv46 =>
    (whileM (link_Send_l1 wv1 data5 f6 copies40) (rv46, 0)).bind fun e149 =>
    some ((⟨wv1.Now, (w64 (wv1.Order + 1)), e149⟩ : Wire), 0))
noncomputable def link_Send (wv1 : Wire) (data5 : ByteArray) (f6 : Fault) : Option (Wire × Int) :=
  (link_Valid wv1).bind fun rv11 =>
  ((if (!rv11) = true then
    some true
  else
    (link_ValidFault f6).bind fun rv28 =>
    some (!rv28))).bind fun c25 =>
  (if c25 = true then
    some ((⟨0, 0, ([] : List Transit)⟩ : Wire), 1)
  else
    (some (w64 (1 + f6.Copies))).bind fun copies37 =>
    (if f6.Drop = true then
      link_Send_j1 wv1 data5 f6 0
    else
      link_Send_j1 wv1 data5 f6 copies37))

-- seismonet/link.Tick
noncomputable def link_Tick_l1 (wv1 : Wire) (sv18 : ((List ByteArray) × Int)) : Option (((List ByteArray) × Int) ⊕ ((List ByteArray) × Int)) :=
  (if (decide (sv18.2 < (wv1.Items.length : Int))) = true then
    (ix wv1.Items sv18.2).bind fun x151 =>
    some (x151.At == (w64 (wv1.Now + 1)))
  else
    some false).bind fun c162 =>
  (if c162 = true then
    (ix wv1.Items sv18.2).bind fun x204 =>
    (appM 16 sv18.1 ([x204.Data] : List ByteArray)).bind fun l218 =>
    (some (w64 (sv18.2 + 1))).bind fun n223 =>
    some (Sum.inl (l218, n223))
  else
    some (Sum.inr (sv18.1, sv18.2)))
noncomputable def link_Tick (wv1 : Wire) : Option (Wire × (List ByteArray) × Int) :=
  (link_Valid wv1).bind fun rv8 =>
  (if (!rv8) = true then
    some ((⟨0, 0, ([] : List Transit)⟩ : Wire), ([] : List ByteArray), 1)
  else
    (if (wv1.Now == 1099511627776) = true then
      some ((⟨0, 0, ([] : List Transit)⟩ : Wire), ([] : List ByteArray), 8)
    else
      (whileM (link_Tick_l1 wv1) (([] : List ByteArray), 0)).bind fun e144 =>
      (subM wv1.Items e144.2 (wv1.Items.length : Int)).bind fun l230 =>
      (slices_Clone_Lapi_Transit_api_Transit l230).bind fun rv232 =>
      some ((⟨(w64 (wv1.Now + 1)), wv1.Order, rv232⟩ : Wire), e144.1, 0)))

-- seismonet/seismonetlaw09.sane
noncomputable def law09_sane_l2 (rv12 : (Wire × Int)) (sv127 : (Int × Int × (List Transit) × Int × Int)) : Option ((Int × Int × (List Transit) × Int × Int) ⊕ Bool) :=
  (if ((decide (sv127.2.2.2.2 ≤ 5)) && (rv12.2 == 0)) = true then
    (link_Tick (⟨sv127.1, sv127.2.1, sv127.2.2.1⟩ : Wire)).bind fun rv263 =>
    (if ((rv263.2.2 != 0) || (!(((rv263.2.1.length : Int) == 1) == ((sv127.2.2.2.2 == 3) || (sv127.2.2.2.2 == 4))))) = true then
      some (Sum.inr false)
    else
      (some (w64 (sv127.2.2.2.1 + (rv263.2.1.length : Int)))).bind fun got288 =>
      (some (w64 (sv127.2.2.2.2 + 1))).bind fun i290 =>
      some (Sum.inl (rv263.1.Now, rv263.1.Order, rv263.1.Items, got288, i290)))
  else
    Option.map Sum.inr (some ((rv12.2 == 0) && (sv127.2.2.2.1 == 2))))
noncomputable def law09_sane : Option Bool :=
  (link_New).bind fun rv2 =>
  (link_Send rv2 (⟨#[109]⟩ : ByteArray) (⟨false, 2, 1⟩ : Fault)).bind fun rv12 =>
  whileM (law09_sane_l2 rv12) (rv12.1.Now, rv12.1.Order, rv12.1.Items, 0, 1)

-- seismonet/seismonetmade.Roll
noncomputable def made_Roll (l1 : (List Int)) : Option Dice :=
  some (⟨l1, 0⟩ : Dice)

-- seismonet/seismonetref09.New
noncomputable def ref09_New : Option Wire :=
  some (⟨0, 0, ([] : List Transit)⟩ : Wire)

-- (*seismonet/seismonetmade.Dice).Next
noncomputable def made_Dice_Next_j1 (d1 : Dice) (x33 : Int) : Option (Int × Dice) :=
  some (x33, (⟨d1.L, (w64 (d1.At + 1))⟩ : Dice))
noncomputable def made_Dice_Next (d1 : Dice) (n6 : Int) : Option (Int × Dice) :=
  (if ((decide ((d1.L.length : Int) ≤ d1.At)) || (decide (n6 < 1))) = true then
    some (0, d1)
  else
    (ix d1.L d1.At).bind fun x15 =>
    (remM x15 n6).bind fun rem27 =>
    (if (decide (rem27 < 0)) = true then
      (some (w64 (rem27 + n6))).bind fun x36 =>
      made_Dice_Next_j1 d1 x36
    else
      made_Dice_Next_j1 d1 rem27))

-- (*seismonet/seismonetmade.Dice).Pick
noncomputable def made_Dice_Pick (d1 : Dice) (l6 : (List Int)) : Option (Int × Dice) :=
  (made_Dice_Next d1 (l6.length : Int)).bind fun rv11 =>
  (ix l6 rv11.1).bind fun x22 =>
  some (x22, rv11.2)

-- (*seismonet/seismonetmade.Dice).Fault
noncomputable def made_Dice_Fault (d1 : Dice) : Option (Fault × Dice) :=
  (made_Dice_Next d1 4).bind fun rv8 =>
  (made_Dice_Pick rv8.2 ([0, 0, 1, 2, 5] : List Int)).bind fun rv20 =>
  (made_Dice_Pick rv20.2 ([0, 0, 0, 1, 2] : List Int)).bind fun rv33 =>
  some ((⟨(rv8.1 == 0), rv20.1, rv33.1⟩ : Fault), rv33.2)

-- seismonet/seismonetref01.In
noncomputable def ref01_In (n1 : Int) (lo2 : Int) (hi3 : Int) : Option Bool :=
  some ((decide (lo2 ≤ n1)) && (decide (n1 ≤ hi3)))

-- seismonet/seismonetref09.Valid
noncomputable def ref09_Valid_l2 (wv1 : Wire) (sv281 : Int) : Option (Int ⊕ Bool) :=
  (if (decide (sv281 < (wv1.Items.length : Int))) = true then
    (ix wv1.Items sv281).bind fun x613 =>
    ((if (decide (4096 < (x613.Data.size : Int))) = true then
      some true
    else
      (ref01_In x613.At (w64 (wv1.Now + 1)) 2199023255552).bind fun rv636 =>
      some (!rv636))).bind fun c633 =>
    ((if c633 = true then
      some true
    else
      (ref01_In x613.Order 0 (w64 (wv1.Order - 1))).bind fun rv653 =>
      some (!rv653))).bind fun c650 =>
    (if c650 = true then
      some (Sum.inr false)
    else
      (if (decide (0 < sv281)) = true then
        (ix wv1.Items (w64 (sv281 - 1))).bind fun x664 =>
        (if (decide (x613.At < x664.At)) = true then
          some true
        else
          (ix wv1.Items (w64 (sv281 - 1))).bind fun x672 =>
          (if (x672.At == x613.At) = true then
            (ix wv1.Items (w64 (sv281 - 1))).bind fun x680 =>
            some (decide (x613.Order ≤ x680.Order))
          else
            some false).bind fun c686 =>
          some c686).bind fun c687 =>
        some c687
      else
        some false).bind fun c688 =>
      (if c688 = true then
        some (Sum.inr false)
      else
        (some (w64 (sv281 + 1))).bind fun i754 =>
        some (Sum.inl i754)))
  else
    Option.map Sum.inr (some true))
noncomputable def ref09_Valid (wv1 : Wire) : Option Bool :=
  (ref01_In wv1.Now 0 1099511627776).bind fun rv7 =>
  ((if (!rv7) = true then
    some true
  else
    (ref01_In wv1.Order 0 1099511627776).bind fun rv24 =>
    some (!rv24))).bind fun c21 =>
  (if (c21 || (decide (1024 < (wv1.Items.length : Int)))) = true then
    some false
  else
    whileM (ref09_Valid_l2 wv1) (0))

-- seismonet/seismonetref09.ValidFault
noncomputable def ref09_ValidFault (f1 : Fault) : Option Bool :=
  (ref01_In f1.Delay 0 1048576).bind fun rv4 =>
  ((if rv4 = true then
    (ref01_In f1.Copies 0 8).bind fun rv21 =>
    some rv21
  else
    some false)).bind fun c18 =>
  some c18

-- seismonet/seismonetref09.Copy
noncomputable def ref09_Copy (wv1 : Wire) : Option Wire :=
  (appM 32 ([] : List Transit) wv1.Items).bind fun l8 =>
  some (⟨wv1.Now, wv1.Order, l8⟩ : Wire)

-- seismonet/seismonetref09.Send
noncomputable def ref09_Send_l6 (wv1 : Wire) (f6 : Fault) (sv57 : ((List Transit) × Int)) (sv504 : Int) : Option (Int ⊕ Int) :=
  (if (decide (0 < sv504)) = true then
    (ix sv57.1 (w64 (sv504 - 1))).bind fun x568 =>
    some (decide ((w64 ((w64 ((w64 (wv1.Now + 1)) + f6.Delay)) + sv57.2)) < x568.At))
  else
    some false).bind fun c579 =>
  (if c579 = true then
    (some (w64 (sv504 - 1))).bind fun k602 =>
    some (Sum.inl k602)
  else
    some (Sum.inr sv504))
noncomputable def ref09_Send_l3 (wv1 : Wire) (data5 : ByteArray) (f6 : Fault) (n40 : Int) (sv57 : ((List Transit) × Int)) : Option (((List Transit) × Int) ⊕ (List Transit)) :=
  (if (decide (sv57.2 < n40)) = true then
    (some (sv57.1.length : Int)).bind fun k503 =>
    (whileM (ref09_Send_l6 wv1 f6 sv57) (k503)).bind fun e564 =>
    (appM 32 sv57.1 ([(⟨(w64 ((w64 ((w64 (wv1.Now + 1)) + f6.Delay)) + sv57.2)), wv1.Order, data5⟩ : Transit)] : List Transit)).bind fun l607 =>
    (subM l607 (w64 (e564 + 1)) (l607.length : Int)).bind fun l615 =>
    (subM l607 e564 (l607.length : Int)).bind fun l620 =>
    (some (copyM l607 (w64 (e564 + 1)) (l607.length : Int) l620)).bind fun l621 =>
    (ix l621 e564).bind fun x631 =>
    (setM l621 e564 (⟨(w64 ((w64 ((w64 (wv1.Now + 1)) + f6.Delay)) + sv57.2)), wv1.Order, data5⟩ : Transit)).bind fun l643 =>
    (some (w64 (sv57.2 + 1))).bind fun i647 =>
    some (Sum.inl (l643, i647))
  else
    some (Sum.inr sv57.1))
noncomputable def ref09_Send_j1 (wv1 : Wire) (data5 : ByteArray) (f6 : Fault) (n40 : Int) : Option (Wire × Int) :=
  (if (((decide (4096 < (data5.size : Int))) || (wv1.Order == 1099511627776)) || (decide (1024 < (w64 ((wv1.Items.length : Int) + n40))))) = true then
    some ((⟨0, 0, ([] : List Transit)⟩ : Wire), 8)
  else
    (ref09_Copy wv1).bind fun rv46 =>
    (whileM (ref09_Send_l3 wv1 data5 f6 n40) (rv46.Items, 0)).bind fun e390 =>
    some ((⟨rv46.Now, (w64 (rv46.Order + 1)), e390⟩ : Wire), 0))
noncomputable def ref09_Send (wv1 : Wire) (data5 : ByteArray) (f6 : Fault) : Option (Wire × Int) :=
  (ref09_Valid wv1).bind fun rv11 =>
  ((if (!rv11) = true then
    some true
  else
    (ref09_ValidFault f6).bind fun rv28 =>
    some (!rv28))).bind fun c25 =>
  (if c25 = true then
    some ((⟨0, 0, ([] : List Transit)⟩ : Wire), 1)
  else
    (some (w64 (1 + f6.Copies))).bind fun n37 =>
    (if f6.Drop = true then
      ref09_Send_j1 wv1 data5 f6 0
    else
      ref09_Send_j1 wv1 data5 f6 n37))

-- seismonet/seismonetref09.Tick
noncomputable def ref09_Tick_j1 (sv19 : ((List Transit) × (List ByteArray) × Int)) (x329 : (List Transit)) (l330 : (List ByteArray)) : Option (((List Transit) × (List ByteArray) × Int) ⊕ ((List Transit) × (List ByteArray))) :=
  (some (w64 (sv19.2.2 + 1))).bind fun i332 =>
  some (Sum.inl (x329, l330, i332))
noncomputable def ref09_Tick_l1 (wv1 : Wire) (sv19 : ((List Transit) × (List ByteArray) × Int)) : Option (((List Transit) × (List ByteArray) × Int) ⊕ ((List Transit) × (List ByteArray))) :=
  (if (decide (sv19.2.2 < (wv1.Items.length : Int))) = true then
    (ix wv1.Items sv19.2.2).bind fun x278 =>
    (if (x278.At == (w64 (wv1.Now + 1))) = true then
      (ix wv1.Items sv19.2.2).bind fun x336 =>
      (appM 16 sv19.2.1 ([x336.Data] : List ByteArray)).bind fun l345 =>
      ref09_Tick_j1 sv19 sv19.1 l345
    else
      (ix wv1.Items sv19.2.2).bind fun x351 =>
      (appM 32 sv19.1 ([x351] : List Transit)).bind fun l360 =>
      ref09_Tick_j1 sv19 l360 sv19.2.1)
  else
    some (Sum.inr (sv19.1, sv19.2.1)))
noncomputable def ref09_Tick (wv1 : Wire) : Option (Wire × (List ByteArray) × Int) :=
  (ref09_Valid wv1).bind fun rv8 =>
  (if (!rv8) = true then
    some ((⟨0, 0, ([] : List Transit)⟩ : Wire), ([] : List ByteArray), 1)
  else
    (if (wv1.Now == 1099511627776) = true then
      some ((⟨0, 0, ([] : List Transit)⟩ : Wire), ([] : List ByteArray), 8)
    else
      (whileM (ref09_Tick_l1 wv1) (([] : List Transit), ([] : List ByteArray), 0)).bind fun e211 =>
      some ((⟨(w64 (wv1.Now + 1)), wv1.Order, e211.1⟩ : Wire), e211.2, 0)))

-- seismonet/seismonetlaw09.wire
noncomputable def law09_wire_j1 (sv28 : ((List Int) × Int × Int × Int × (List Transit) × Int)) (rv476 : (Int × Dice)) (x506 : Int) (x507 : Int) (x508 : (List Transit)) : Option (((List Int) × Int × Int × Int × (List Transit) × Int) ⊕ ((List Int) × Int × Int × Int × (List Transit))) :=
  (some (w64 (sv28.2.2.2.2.2 - 1))).bind fun i510 =>
  some (Sum.inl (rv476.2.L, rv476.2.At, x506, x507, x508, i510))
noncomputable def law09_wire_l1 (sv28 : ((List Int) × Int × Int × Int × (List Transit) × Int)) : Option (((List Int) × Int × Int × Int × (List Transit) × Int) ⊕ ((List Int) × Int × Int × Int × (List Transit))) :=
  (if (decide (0 < sv28.2.2.2.2.2)) = true then
    (made_Dice_Next (⟨sv28.1, sv28.2.1⟩ : Dice) 4).bind fun rv310 =>
    (ix ([(⟨#[97]⟩ : ByteArray), (⟨#[98]⟩ : ByteArray), (⟨#[]⟩ : ByteArray), (⟨#[99, 99]⟩ : ByteArray)] : List ByteArray) rv310.1).bind fun x316 =>
    (made_Dice_Fault rv310.2).bind fun rv324 =>
    (ref09_Send (⟨sv28.2.2.1, sv28.2.2.2.1, sv28.2.2.2.2.1⟩ : Wire) x316 rv324.1).bind fun rv329 =>
    (made_Dice_Next rv324.2 2).bind fun rv476 =>
    (if (rv476.1 == 0) = true then
      (ref09_Tick rv329.1).bind fun rv514 =>
      law09_wire_j1 sv28 rv476 rv514.1.Now rv514.1.Order rv514.1.Items
    else
      law09_wire_j1 sv28 rv476 rv329.1.Now rv329.1.Order rv329.1.Items)
  else
    some (Sum.inr (sv28.1, sv28.2.1, sv28.2.2.1, sv28.2.2.2.1, sv28.2.2.2.2.1)))
noncomputable def law09_wire (d1 : Dice) : Option (Wire × Dice) :=
  (ref09_New).bind fun rv8 =>
  (made_Dice_Next d1 9).bind fun rv19 =>
  (whileM (law09_wire_l1) (rv19.2.L, rv19.2.At, rv8.Now, rv8.Order, rv8.Items, rv19.1)).bind fun e237 =>
  some ((⟨e237.2.2.1, e237.2.2.2.1, e237.2.2.2.2⟩ : Wire), (⟨e237.1, e237.2.1⟩ : Dice))

-- seismonet/seismonetref09.Same
noncomputable def ref09_Same_l2 (a1 : Wire) (b5 : Wire) (sv113 : Int) : Option (Int ⊕ Bool) :=
  (if (decide (sv113 < (a1.Items.length : Int))) = true then
    (ix a1.Items sv113).bind fun x245 =>
    (ix b5.Items sv113).bind fun x258 =>
    (if (!((x245.At == x258.At) && ((x245.Order == x258.Order) && ((x245.Data == x258.Data) && true)))) = true then
      some (Sum.inr false)
    else
      (some (w64 (sv113 + 1))).bind fun i274 =>
      some (Sum.inl i274))
  else
    Option.map Sum.inr (some true))
noncomputable def ref09_Same (a1 : Wire) (b5 : Wire) : Option Bool :=
  (if (((a1.Now != b5.Now) || (a1.Order != b5.Order)) || ((a1.Items.length : Int) != (b5.Items.length : Int))) = true then
    some false
  else
    whileM (ref09_Same_l2 a1 b5) (0))

-- seismonet/link.Next
noncomputable def link_Next_j1 (sv6 : (Int × Bool × Int)) (least110 : Int) (found111 : Bool) : Option ((Int × Bool × Int) ⊕ (Int × Bool)) :=
  some (Sum.inl (least110, found111, (w64 (sv6.2.2 + 1))))
noncomputable def link_Next_l1 (wv1 : Wire) (sv6 : (Int × Bool × Int)) : Option ((Int × Bool × Int) ⊕ (Int × Bool)) :=
  (if (decide (sv6.2.2 < (wv1.Items.length : Int))) = true then
    (ix wv1.Items sv6.2.2).bind fun x95 =>
    (if ((!sv6.2.1) || (decide (x95.At < sv6.1))) = true then
      link_Next_j1 sv6 x95.At true
    else
      link_Next_j1 sv6 sv6.1 sv6.2.1)
  else
    some (Sum.inr (sv6.1, sv6.2.1)))
noncomputable def link_Next (wv1 : Wire) : Option (Int × Bool) :=
  (whileM (link_Next_l1 wv1) (0, false, 0)).bind fun e69 =>
  some (e69.1, e69.2)

-- seismonet/seismonetref09.Next
noncomputable def ref09_Next_l1 (wv1 : Wire) (sv21 : (Int × Int)) : Option ((Int × Int) ⊕ Int) :=
  (if (decide (sv21.2 < (wv1.Items.length : Int))) = true then
    (ix wv1.Items sv21.2).bind fun x82 =>
    (some (min sv21.1 x82.At)).bind fun least89 =>
    (some (w64 (sv21.2 + 1))).bind fun i91 =>
    some (Sum.inl (least89, i91))
  else
    some (Sum.inr sv21.1))
noncomputable def ref09_Next (wv1 : Wire) : Option (Int × Bool) :=
  (if ((wv1.Items.length : Int) == 0) = true then
    some (0, false)
  else
    (ix wv1.Items 0).bind fun x10 =>
    (whileM (ref09_Next_l1 wv1) (x10.At, 1)).bind fun e66 =>
    some (e66, true))

-- seismonet/link.Drain
noncomputable def link_Drain (wv1 : Wire) : Option ((List Transit) × Int) :=
  (link_Valid wv1).bind fun rv7 =>
  (if (!rv7) = true then
    some (([] : List Transit), 1)
  else
    (slices_Clone_Lapi_Transit_api_Transit wv1.Items).bind fun rv16 =>
    some (rv16, 0))

-- seismonet/seismonetref09.Drain
noncomputable def ref09_Drain (wv1 : Wire) : Option ((List Transit) × Int) :=
  (ref09_Valid wv1).bind fun rv7 =>
  (if (!rv7) = true then
    some (([] : List Transit), 1)
  else
    (appM 32 ([] : List Transit) wv1.Items).bind fun l16 =>
    some (l16, 0))

-- seismonet/seismonetlaw09.same
noncomputable def law09_same_l2 (a1 : (List ByteArray)) (b5 : (List ByteArray)) (sv103 : Int) : Option (Int ⊕ Bool) :=
  (if (decide (sv103 < (a1.length : Int))) = true then
    (ix a1 sv103).bind fun x229 =>
    (ix b5 sv103).bind fun x242 =>
    (if (!(x229.toList == x242.toList)) = true then
      some (Sum.inr false)
    else
      some (Sum.inl (w64 (sv103 + 1))))
  else
    Option.map Sum.inr (some true))
noncomputable def law09_same (a1 : (List ByteArray)) (b5 : (List ByteArray)) : Option Bool :=
  (if ((a1.length : Int) != (b5.length : Int)) = true then
    some false
  else
    whileM (law09_same_l2 a1 b5) (0))

-- seismonet/seismonetlaw09.LinkExact
noncomputable def law09_LinkExact_l20 (sv1414 : Int) (rv3214 : ((List Transit) × Int)) (rv3225 : ((List Transit) × Int)) (sv3488 : Int) : Option (Int ⊕ (Int ⊕ Bool)) :=
  (if (decide (sv3488 < (rv3214.1.length : Int))) = true then
    (ix rv3214.1 sv3488).bind fun x3614 =>
    (ix rv3225.1 sv3488).bind fun x3627 =>
    (if (!((x3614.At == x3627.At) && ((x3614.Order == x3627.Order) && ((x3614.Data == x3627.Data) && true)))) = true then
      some (Sum.inr (Sum.inr false))
    else
      some (Sum.inl (w64 (sv3488 + 1))))
  else
    Option.map Sum.inr (some (Sum.inl (w64 (sv1414 + 1)))))
noncomputable def law09_LinkExact_l18 (data9 : ByteArray) (f10 : Fault) (rv380 : (Fault × Dice)) (rv393 : (Int × Dice)) (rv406 : (Int × Dice)) (sv1414 : Int) (x2744 : Wire) (sv2898 : Int) : Option (Int ⊕ (Int ⊕ Bool)) :=
  (if (decide (sv2898 < (([f10, (⟨rv380.1.Drop, rv393.1, rv406.1⟩ : Fault), (⟨true, 0, 0⟩ : Fault)] : List Fault).length : Int))) = true then
    (ix ([f10, (⟨rv380.1.Drop, rv393.1, rv406.1⟩ : Fault), (⟨true, 0, 0⟩ : Fault)] : List Fault) sv2898).bind fun x3088 =>
    (link_Send x2744 data9 x3088).bind fun rv3097 =>
    (ref09_Send x2744 data9 x3088).bind fun rv3109 =>
    (if (rv3097.2 != rv3109.2) = true then
      some true
    else
      (ref09_Same rv3097.1 rv3109.1).bind fun rv3121 =>
      some (!rv3121)).bind fun c3122 =>
    (if c3122 = true then
      some true
    else
      (link_ValidFault x3088).bind fun rv3124 =>
      (ref09_ValidFault x3088).bind fun rv3126 =>
      some (!(rv3124 == rv3126))).bind fun c3127 =>
    (if c3127 = true then
      some (Sum.inr (Sum.inr false))
    else
      some (Sum.inl (w64 (sv2898 + 1))))
  else
    Option.map Sum.inr ((link_Tick x2744).bind fun rv3168 =>
    (ref09_Tick x2744).bind fun rv3184 =>
    (link_Next x2744).bind fun rv3200 =>
    (ref09_Next x2744).bind fun rv3207 =>
    (link_Drain x2744).bind fun rv3214 =>
    (ref09_Drain x2744).bind fun rv3225 =>
    (if (rv3168.2.2 != rv3184.2.2) = true then
      some true
    else
      (ref09_Same rv3168.1 rv3184.1).bind fun rv3236 =>
      some (!rv3236)).bind fun c3237 =>
    (if c3237 = true then
      some true
    else
      (law09_same rv3168.2.1 rv3184.2.1).bind fun rv3239 =>
      some (!rv3239)).bind fun c3240 =>
    (if ((((c3240 || (rv3200.1 != rv3207.1)) || (!(rv3200.2 == rv3207.2))) || (rv3214.2 != rv3225.2)) || ((rv3214.1.length : Int) != (rv3225.1.length : Int))) = true then
      some true
    else
      (link_Valid x2744).bind fun rv3242 =>
      (ref09_Valid x2744).bind fun rv3244 =>
      some (!(rv3242 == rv3244))).bind fun c3245 =>
    (if c3245 = true then
      some (Sum.inr false)
    else
      whileM (law09_LinkExact_l20 sv1414 rv3214 rv3225) (0))))
noncomputable def law09_LinkExact_l12 (raw5 : Wire) (data9 : ByteArray) (f10 : Fault) (rv50 : (Wire × Dice)) (x376 : Int) (x377 : Int) (x378 : (List Transit)) (rv380 : (Fault × Dice)) (rv393 : (Int × Dice)) (rv406 : (Int × Dice)) (sv1414 : Int) : Option (Int ⊕ Bool) :=
  (if (decide (sv1414 < (([rv50.1, (⟨x376, x377, x378⟩ : Wire), raw5] : List Wire).length : Int))) = true then
    (ix ([rv50.1, (⟨x376, x377, x378⟩ : Wire), raw5] : List Wire) sv1414).bind fun x2744 =>
    whileM (law09_LinkExact_l18 data9 f10 rv380 rv393 rv406 sv1414 x2744) (0)
  else
    Option.map Sum.inr ((link_New).bind fun rv3648 =>
    (ref09_New).bind fun rv3658 =>
    (ref09_Same rv3648 rv3658).bind fun rv3668 =>
    ((if rv3668 = true then
      (law09_sane).bind fun rv3685 =>
      some rv3685
    else
      some false)).bind fun c3682 =>
    some c3682))
noncomputable def law09_LinkExact_j1 (raw5 : Wire) (data9 : ByteArray) (f10 : Fault) (rv50 : (Wire × Dice)) (x374 : (List Int)) (x375 : Int) (x376 : Int) (x377 : Int) (x378 : (List Transit)) : Option Bool :=
  (made_Dice_Fault (⟨x374, x375⟩ : Dice)).bind fun rv380 =>
  (made_Dice_Pick rv380.2 ([rv380.1.Delay, 1048576, 1048577, (-1)] : List Int)).bind fun rv393 =>
  (made_Dice_Pick rv393.2 ([rv380.1.Copies, 8, 9, (-1)] : List Int)).bind fun rv406 =>
  whileM (law09_LinkExact_l12 raw5 data9 f10 rv50 x376 x377 x378 rv380 rv393 rv406) (0)
noncomputable def law09_LinkExact_j5 (raw5 : Wire) (data9 : ByteArray) (f10 : Fault) (rv50 : (Wire × Dice)) (rv64 : Wire) (x3825 : (List Int)) (x3826 : Int) (x3827 : Int) (x3828 : (List Transit)) : Option Bool :=
  law09_LinkExact_j1 raw5 data9 f10 rv50 x3825 x3826 rv64.Now x3827 x3828
noncomputable def law09_LinkExact_j6 (raw5 : Wire) (data9 : ByteArray) (f10 : Fault) (rv50 : (Wire × Dice)) (rv64 : Wire) (rv76 : (Int × Dice)) (x3940 : (List Transit)) : Option Bool :=
  law09_LinkExact_j5 raw5 data9 f10 rv50 rv64 rv76.2.L rv76.2.At rv64.Order x3940
noncomputable def law09_LinkExact_j7 (raw5 : Wire) (data9 : ByteArray) (f10 : Fault) (rv50 : (Wire × Dice)) (rv64 : Wire) (rv76 : (Int × Dice)) (x3998 : (List Transit)) : Option Bool :=
  law09_LinkExact_j6 raw5 data9 f10 rv50 rv64 rv76 x3998
noncomputable def law09_LinkExact_j8 (raw5 : Wire) (data9 : ByteArray) (f10 : Fault) (rv50 : (Wire × Dice)) (rv64 : Wire) (rv76 : (Int × Dice)) (x4083 : (List Transit)) : Option Bool :=
  law09_LinkExact_j6 raw5 data9 f10 rv50 rv64 rv76 x4083
noncomputable def law09_LinkExact_j9 (raw5 : Wire) (data9 : ByteArray) (f10 : Fault) (rv50 : (Wire × Dice)) (rv64 : Wire) (rv76 : (Int × Dice)) (x4113 : (List Transit)) : Option Bool :=
  law09_LinkExact_j8 raw5 data9 f10 rv50 rv64 rv76 x4113
noncomputable def law09_LinkExact (t1 : (List Int)) (raw5 : Wire) (data9 : ByteArray) (f10 : Fault) : Option Bool :=
  (made_Light t1).bind fun rv14 =>
  (if (((!rv14) || (decide (30 < (raw5.Items.length : Int)))) || (decide (300 < (data9.size : Int)))) = true then
    (law09_sane).bind fun rv32 =>
    some rv32
  else
    (made_Roll t1).bind fun rv39 =>
    (law09_wire rv39).bind fun rv50 =>
    (ref09_Copy rv50.1).bind fun rv64 =>
    (made_Dice_Next rv50.2 4).bind fun rv76 =>
    (if (rv76.1 == 0) = true then
      (made_Dice_Pick rv76.2 ([(-1), (w64 (rv64.Now + 2)), 1099511627776, 1099511627777] : List Int)).bind fun rv3697 =>
      law09_LinkExact_j1 raw5 data9 f10 rv50 rv3697.2.L rv3697.2.At rv3697.1 rv64.Order rv64.Items
    else
      (if (rv76.1 == 1) = true then
        (made_Dice_Pick rv76.2 ([0, 1099511627776, (-1)] : List Int)).bind fun rv3833 =>
        law09_LinkExact_j5 raw5 data9 f10 rv50 rv64 rv3833.2.L rv3833.2.At rv3833.1 rv64.Items
      else
        (if (rv76.1 == 2) = true then
          (some (rv64.Items.length : Int)).bind fun n3943 =>
          (if (decide (1 < n3943)) = true then
            (ix rv64.Items (w64 (n3943 - 1))).bind fun x4002 =>
            (ix rv64.Items 0).bind fun x4015 =>
            (ix rv64.Items 0).bind fun x4024 =>
            (setM rv64.Items 0 x4002).bind fun l4032 =>
            (ix l4032 (w64 (n3943 - 1))).bind fun x4037 =>
            (setM l4032 (w64 (n3943 - 1)) x4015).bind fun l4045 =>
            law09_LinkExact_j7 raw5 data9 f10 rv50 rv64 rv76 l4045
          else
            law09_LinkExact_j7 raw5 data9 f10 rv50 rv64 rv76 rv64.Items)
        else
          (if (rv76.1 == 3) = true then
            (some (rv64.Items.length : Int)).bind fun n4086 =>
            (if (decide (0 < n4086)) = true then
              (ix rv64.Items (w64 (n4086 - 1))).bind fun x4117 =>
              (appM 32 rv64.Items ([x4117] : List Transit)).bind fun l4131 =>
              law09_LinkExact_j9 raw5 data9 f10 rv50 rv64 rv76 l4131
            else
              law09_LinkExact_j9 raw5 data9 f10 rv50 rv64 rv76 rv64.Items)
          else
            law09_LinkExact_j8 raw5 data9 f10 rv50 rv64 rv76 rv64.Items)))))

-- seismonet/seismonetlaw09.LinkOrder
noncomputable def law09_LinkOrder_j1 (sv2032 : ((List Int) × Int × Int × Int × (List Transit) × (List ByteArray) × Int)) (rv2318 : (Int × Dice)) (rv2329 : (Wire × Int)) (sent2356 : (List ByteArray)) : Option (((List Int) × Int × Int × Int × (List Transit) × (List ByteArray) × Int) ⊕ (((List Int) × Int × Int × Int × (List Transit) × Int) ⊕ Bool)) :=
  (some (w64 (sv2032.2.2.2.2.2.2 - 1))).bind fun k2358 =>
  some (Sum.inl (rv2318.2.L, rv2318.2.At, rv2329.1.Now, rv2329.1.Order, rv2329.1.Items, sent2356, k2358))
noncomputable def law09_LinkOrder_l11 (sv810 : ((List Int) × Int × Int × Int × (List Transit) × Int)) (sv2032 : ((List Int) × Int × Int × Int × (List Transit) × (List ByteArray) × Int)) : Option (((List Int) × Int × Int × Int × (List Transit) × (List ByteArray) × Int) ⊕ (((List Int) × Int × Int × Int × (List Transit) × Int) ⊕ Bool)) :=
  (if (decide (0 < sv2032.2.2.2.2.2.2)) = true then
    (made_Dice_Next (⟨sv2032.1, sv2032.2.1⟩ : Dice) 3).bind fun rv2299 =>
    (ix ([(⟨#[97]⟩ : ByteArray), (⟨#[98]⟩ : ByteArray), (⟨#[99]⟩ : ByteArray)] : List ByteArray) rv2299.1).bind fun x2310 =>
    (made_Dice_Next rv2299.2 3).bind fun rv2318 =>
    (link_Send (⟨sv2032.2.2.1, sv2032.2.2.2.1, sv2032.2.2.2.2.1⟩ : Wire) x2310 (⟨(rv2318.1 == 0), 0, 0⟩ : Fault)).bind fun rv2329 =>
    (if (rv2329.2 != 0) = true then
      some (Sum.inr (Sum.inr false))
    else
      (if (!(rv2318.1 == 0)) = true then
        (appM 16 sv2032.2.2.2.2.2.1 ([x2310] : List ByteArray)).bind fun l2364 =>
        law09_LinkOrder_j1 sv2032 rv2318 rv2329 l2364
      else
        law09_LinkOrder_j1 sv2032 rv2318 rv2329 sv2032.2.2.2.2.2.1))
  else
    Option.map Sum.inr ((link_Tick (⟨sv2032.2.2.1, sv2032.2.2.2.1, sv2032.2.2.2.2.1⟩ : Wire)).bind fun rv2369 =>
    ((if (rv2369.2.2 != 0) = true then
      some true
    else
      (law09_same rv2369.2.1 sv2032.2.2.2.2.2.1).bind fun rv2395 =>
      some (!rv2395))).bind fun c2392 =>
    (if c2392 = true then
      some (Sum.inr false)
    else
      (some (w64 (sv810.2.2.2.2.2 + 1))).bind fun i2405 =>
      some (Sum.inl (sv2032.1, sv2032.2.1, rv2369.1.Now, rv2369.1.Order, rv2369.1.Items, i2405)))))
noncomputable def law09_LinkOrder_l7 (sv810 : ((List Int) × Int × Int × Int × (List Transit) × Int)) : Option (((List Int) × Int × Int × Int × (List Transit) × Int) ⊕ Bool) :=
  (if (decide (sv810.2.2.2.2.2 < 6)) = true then
    (made_Dice_Next (⟨sv810.1, sv810.2.1⟩ : Dice) 4).bind fun rv1821 =>
    whileM (law09_LinkOrder_l11 sv810) (rv1821.2.L, rv1821.2.At, sv810.2.2.1, sv810.2.2.2.1, sv810.2.2.2.2.1, ([] : List ByteArray), rv1821.1)
  else
    Option.map Sum.inr ((law09_sane).bind fun rv2410 =>
    some rv2410))
noncomputable def law09_LinkOrder (t1 : (List Int)) : Option Bool :=
  (made_Light t1).bind fun rv6 =>
  (if (!rv6) = true then
    (law09_sane).bind fun rv22 =>
    some rv22
  else
    (made_Roll t1).bind fun rv29 =>
    (link_New).bind fun rv40 =>
    whileM (law09_LinkOrder_l7) (rv29.L, rv29.At, rv40.Now, rv40.Order, rv40.Items, 0))

-- seismonet/seismonetlaw09.LinkApart
noncomputable def law09_LinkApart_j2 (sv3947 : ((List ByteArray) × (List ByteArray) × Int)) (p4444 : (List ByteArray)) (q4445 : (List ByteArray)) : Option (((List ByteArray) × (List ByteArray) × Int) ⊕ (((List Int) × Int × Int × Int × (List Transit) × Int × Int × (List Transit) × Int × Int × (List Transit) × Int) ⊕ Bool)) :=
  some (Sum.inl (p4444, q4445, (w64 (sv3947.2.2 + 1))))
noncomputable def law09_LinkApart_l11 (sv1539 : ((List Int) × Int × Int × Int × (List Transit) × Int × Int × (List Transit) × Int × Int × (List Transit) × Int)) (x3578 : (List Int)) (x3579 : Int) (rv3590 : (Wire × (List ByteArray) × Int)) (rv3606 : (Wire × (List ByteArray) × Int)) (rv3622 : (Wire × (List ByteArray) × Int)) (sv3947 : ((List ByteArray) × (List ByteArray) × Int)) : Option (((List ByteArray) × (List ByteArray) × Int) ⊕ (((List Int) × Int × Int × Int × (List Transit) × Int × Int × (List Transit) × Int × Int × (List Transit) × Int) ⊕ Bool)) :=
  (if (decide (sv3947.2.2 < (rv3590.2.1.length : Int))) = true then
    (ix rv3590.2.1 sv3947.2.2).bind fun x4353 =>
    (byteAt x4353 0).bind fun c4365 =>
    (if (c4365 == 97) = true then
      ((if ((sv3947.1.length : Int) == 0) = true then
        some true
      else
        (ix sv3947.1 0).bind fun x4465 =>
        some (!(x4465.toList == x4353.toList)))).bind fun c4461 =>
      (if c4461 = true then
        some (Sum.inr (Sum.inr false))
      else
        (subM sv3947.1 1 (sv3947.1.length : Int)).bind fun l4485 =>
        law09_LinkApart_j2 sv3947 l4485 sv3947.2.1)
    else
      ((if ((sv3947.2.1.length : Int) == 0) = true then
        some true
      else
        (ix sv3947.2.1 0).bind fun x4504 =>
        some (!(x4504.toList == x4353.toList)))).bind fun c4500 =>
      (if c4500 = true then
        some (Sum.inr (Sum.inr false))
      else
        (subM sv3947.2.1 1 (sv3947.2.1.length : Int)).bind fun l4524 =>
        law09_LinkApart_j2 sv3947 sv3947.1 l4524))
  else
    Option.map Sum.inr (((if ((decide (0 < (sv3947.1.length : Int))) || (decide (0 < (sv3947.2.1.length : Int)))) = true then
      some true
    else
      (ref09_Valid rv3590.1).bind fun rv4537 =>
      some (!rv4537))).bind fun c4534 =>
    (if c4534 = true then
      some (Sum.inr false)
    else
      (some (w64 (sv1539.2.2.2.2.2.2.2.2.2.2.2 + 1))).bind fun i4548 =>
      some (Sum.inl (x3578, x3579, rv3590.1.Now, rv3590.1.Order, rv3590.1.Items, rv3606.1.Now, rv3606.1.Order, rv3606.1.Items, rv3622.1.Now, rv3622.1.Order, rv3622.1.Items, i4548)))))
noncomputable def law09_LinkApart_j1 (sv1539 : ((List Int) × Int × Int × Int × (List Transit) × Int × Int × (List Transit) × Int × Int × (List Transit) × Int)) (x3578 : (List Int)) (x3579 : Int) (x3580 : Int) (x3581 : Int) (x3582 : (List Transit)) (x3583 : Int) (x3584 : Int) (x3585 : (List Transit)) (x3586 : Int) (x3587 : Int) (x3588 : (List Transit)) : Option (((List Int) × Int × Int × Int × (List Transit) × Int × Int × (List Transit) × Int × Int × (List Transit) × Int) ⊕ Bool) :=
  (link_Tick (⟨x3580, x3581, x3582⟩ : Wire)).bind fun rv3590 =>
  (link_Tick (⟨x3583, x3584, x3585⟩ : Wire)).bind fun rv3606 =>
  (link_Tick (⟨x3586, x3587, x3588⟩ : Wire)).bind fun rv3622 =>
  (if (((rv3590.2.2 != 0) || (rv3606.2.2 != 0)) || (rv3622.2.2 != 0)) = true then
    some (Sum.inr false)
  else
    whileM (law09_LinkApart_l11 sv1539 x3578 x3579 rv3590 rv3606 rv3622) (rv3606.2.1, rv3622.2.1, 0))
noncomputable def law09_LinkApart_j4 (sv1539 : ((List Int) × Int × Int × Int × (List Transit) × Int × Int × (List Transit) × Int × Int × (List Transit) × Int)) (rv4566 : (Int × Dice)) (rv4612 : (Wire × Int)) (x4656 : Int) (x4657 : Int) (x4658 : (List Transit)) (x4659 : Int) (x4660 : Int) (x4661 : (List Transit)) (g4662 : Int) : Option (((List Int) × Int × Int × Int × (List Transit) × Int × Int × (List Transit) × Int × Int × (List Transit) × Int) ⊕ Bool) :=
  (if ((rv4612.2 != 0) || (g4662 != 0)) = true then
    some (Sum.inr false)
  else
    law09_LinkApart_j1 sv1539 rv4566.2.L rv4566.2.At rv4612.1.Now rv4612.1.Order rv4612.1.Items x4656 x4657 x4658 x4659 x4660 x4661)
noncomputable def law09_LinkApart_l7 (sv1539 : ((List Int) × Int × Int × Int × (List Transit) × Int × Int × (List Transit) × Int × Int × (List Transit) × Int)) : Option (((List Int) × Int × Int × Int × (List Transit) × Int × Int × (List Transit) × Int × Int × (List Transit) × Int) ⊕ Bool) :=
  (if (decide (sv1539.2.2.2.2.2.2.2.2.2.2.2 < 16)) = true then
    (if (decide (sv1539.2.2.2.2.2.2.2.2.2.2.2 < 9)) = true then
      (made_Dice_Fault (⟨sv1539.1, sv1539.2.1⟩ : Dice)).bind fun rv4559 =>
      (made_Dice_Next rv4559.2 4).bind fun rv4566 =>
      (ix ([(⟨#[97, 49]⟩ : ByteArray), (⟨#[97, 50]⟩ : ByteArray), (⟨#[98, 49]⟩ : ByteArray), (⟨#[98, 50]⟩ : ByteArray)] : List ByteArray) rv4566.1).bind fun x4572 =>
      (link_Send (⟨sv1539.2.2.1, sv1539.2.2.2.1, sv1539.2.2.2.2.1⟩ : Wire) x4572 rv4559.1).bind fun rv4612 =>
      (byteAt x4572 0).bind fun c4627 =>
      (if (c4627 == 97) = true then
        (link_Send (⟨sv1539.2.2.2.2.2.1, sv1539.2.2.2.2.2.2.1, sv1539.2.2.2.2.2.2.2.1⟩ : Wire) x4572 rv4559.1).bind fun rv4672 =>
        law09_LinkApart_j4 sv1539 rv4566 rv4612 rv4672.1.Now rv4672.1.Order rv4672.1.Items sv1539.2.2.2.2.2.2.2.2.1 sv1539.2.2.2.2.2.2.2.2.2.1 sv1539.2.2.2.2.2.2.2.2.2.2.1 rv4672.2
      else
        (link_Send (⟨sv1539.2.2.2.2.2.2.2.2.1, sv1539.2.2.2.2.2.2.2.2.2.1, sv1539.2.2.2.2.2.2.2.2.2.2.1⟩ : Wire) x4572 rv4559.1).bind fun rv4684 =>
        law09_LinkApart_j4 sv1539 rv4566 rv4612 sv1539.2.2.2.2.2.1 sv1539.2.2.2.2.2.2.1 sv1539.2.2.2.2.2.2.2.1 rv4684.1.Now rv4684.1.Order rv4684.1.Items rv4684.2)
    else
      law09_LinkApart_j1 sv1539 sv1539.1 sv1539.2.1 sv1539.2.2.1 sv1539.2.2.2.1 sv1539.2.2.2.2.1 sv1539.2.2.2.2.2.1 sv1539.2.2.2.2.2.2.1 sv1539.2.2.2.2.2.2.2.1 sv1539.2.2.2.2.2.2.2.2.1 sv1539.2.2.2.2.2.2.2.2.2.1 sv1539.2.2.2.2.2.2.2.2.2.2.1)
  else
    Option.map Sum.inr ((law09_sane).bind fun rv4696 =>
    some rv4696))
noncomputable def law09_LinkApart (t1 : (List Int)) : Option Bool :=
  (made_Light t1).bind fun rv6 =>
  (if (!rv6) = true then
    (law09_sane).bind fun rv22 =>
    some rv22
  else
    (made_Roll t1).bind fun rv29 =>
    (link_New).bind fun rv40 =>
    (link_New).bind fun rv50 =>
    (link_New).bind fun rv60 =>
    whileM (law09_LinkApart_l7) (rv29.L, rv29.At, rv40.Now, rv40.Order, rv40.Items, rv50.Now, rv50.Order, rv50.Items, rv60.Now, rv60.Order, rv60.Items, 0))

-- seismonet/seismonetlaw09.LinkCounts
noncomputable def law09_LinkCounts_j1 (sv505 : ((List Int) × Int × Int × Int × (List Transit) × (Mp Int) × Int × Int × Int)) (x1203 : (List Int)) (x1204 : Int) (x1205 : Int) (x1206 : Int) (x1207 : (List Transit)) (m1208 : (Mp Int)) (total1209 : Int) : Option (((List Int) × Int × Int × Int × (List Transit) × (Mp Int) × Int × Int × Int) ⊕ Bool) :=
  (link_Next (⟨x1205, x1206, x1207⟩ : Wire)).bind fun rv1211 =>
  (link_Tick (⟨x1205, x1206, x1207⟩ : Wire)).bind fun rv1218 =>
  ((if ((rv1218.2.2 != 0) || (rv1218.1.Now != (w64 (sv505.2.2.2.2.2.2.2.2 + 1)))) = true then
    some true
  else
    (Mp.get m1208 (w64 (sv505.2.2.2.2.2.2.2.2 + 1))).bind fun g1240 =>
    some ((rv1218.2.1.length : Int) != g1240))).bind fun c1237 =>
  (if (c1237 || (!((decide (0 < (rv1218.2.1.length : Int))) == (rv1211.2 && (rv1211.1 == (w64 (sv505.2.2.2.2.2.2.2.2 + 1))))))) = true then
    some (Sum.inr false)
  else
    (some (w64 (sv505.2.2.2.2.2.2.2.1 + (rv1218.2.1.length : Int)))).bind fun got1250 =>
    (some (w64 (sv505.2.2.2.2.2.2.2.2 + 1))).bind fun now1252 =>
    some (Sum.inl (x1203, x1204, rv1218.1.Now, rv1218.1.Order, rv1218.1.Items, m1208, total1209, got1250, now1252)))
noncomputable def law09_LinkCounts_l11 (sv505 : ((List Int) × Int × Int × Int × (List Transit) × (Mp Int) × Int × Int × Int)) (rv1258 : (Fault × Dice)) (sv1283 : ((Mp Int) × Int × Int)) : Option (((Mp Int) × Int × Int) ⊕ ((Mp Int) × Int)) :=
  (if ((decide (sv1283.2.2 ≤ rv1258.1.Copies)) && (!rv1258.1.Drop)) = true then
    (Mp.get sv1283.1 (w64 ((w64 ((w64 (sv505.2.2.2.2.2.2.2.2 + 1)) + rv1258.1.Delay)) + sv1283.2.2))).bind fun g1334 =>
    (Mp.put sv1283.1 (w64 ((w64 ((w64 (sv505.2.2.2.2.2.2.2.2 + 1)) + rv1258.1.Delay)) + sv1283.2.2)) (w64 (g1334 + 1))).bind fun m1336 =>
    (some (w64 (sv1283.2.1 + 1))).bind fun total1338 =>
    (some (w64 (sv1283.2.2 + 1))).bind fun i1340 =>
    some (Sum.inl (m1336, total1338, i1340))
  else
    some (Sum.inr (sv1283.1, sv1283.2.1)))
noncomputable def law09_LinkCounts_l7 (sv505 : ((List Int) × Int × Int × Int × (List Transit) × (Mp Int) × Int × Int × Int)) : Option (((List Int) × Int × Int × Int × (List Transit) × (Mp Int) × Int × Int × Int) ⊕ Bool) :=
  (if (decide (sv505.2.2.2.2.2.2.2.2 < 30)) = true then
    ((if (decide (sv505.2.2.2.2.2.2.2.2 < 14)) = true then
      (made_Dice_Next (⟨sv505.1, sv505.2.1⟩ : Dice) 2).bind fun rv1123 =>
      some (rv1123.2.L, rv1123.2.At, (rv1123.1 == 0))
    else
      some (sv505.1, sv505.2.1, false))).bind fun c1118 =>
    (if c1118.2.2 = true then
      (made_Dice_Fault (⟨c1118.1, c1118.2.1⟩ : Dice)).bind fun rv1258 =>
      (link_Send (⟨sv505.2.2.1, sv505.2.2.2.1, sv505.2.2.2.2.1⟩ : Wire) (⟨#[109]⟩ : ByteArray) rv1258.1).bind fun rv1269 =>
      (if (rv1269.2 != 0) = true then
        some (Sum.inr false)
      else
        (whileM (law09_LinkCounts_l11 sv505 rv1258) (sv505.2.2.2.2.2.1, sv505.2.2.2.2.2.2.1, 0)).bind fun e1322 =>
        law09_LinkCounts_j1 sv505 rv1258.2.L rv1258.2.At rv1269.1.Now rv1269.1.Order rv1269.1.Items e1322.1 e1322.2)
    else
      law09_LinkCounts_j1 sv505 c1118.1 c1118.2.1 sv505.2.2.1 sv505.2.2.2.1 sv505.2.2.2.2.1 sv505.2.2.2.2.2.1 sv505.2.2.2.2.2.2.1)
  else
    Option.map Sum.inr ((link_Drain (⟨sv505.2.2.1, sv505.2.2.2.1, sv505.2.2.2.2.1⟩ : Wire)).bind fun rv1346 =>
    ((if (((rv1346.2 == 0) && ((rv1346.1.length : Int) == 0)) && (sv505.2.2.2.2.2.2.2.1 == sv505.2.2.2.2.2.2.1)) = true then
      (law09_sane).bind fun rv1369 =>
      some rv1369
    else
      some false)).bind fun c1366 =>
    some c1366))
noncomputable def law09_LinkCounts (t1 : (List Int)) : Option Bool :=
  (made_Light t1).bind fun rv6 =>
  (if (!rv6) = true then
    (law09_sane).bind fun rv22 =>
    some rv22
  else
    (made_Roll t1).bind fun rv29 =>
    (link_New).bind fun rv40 =>
    whileM (law09_LinkCounts_l7) (rv29.L, rv29.At, rv40.Now, rv40.Order, rv40.Items, (⟨0, fun _ => 0⟩ : Mp Int), 0, 0, 0))

end Go.Proofs.Ytljdiobhmenjgaa.Sh

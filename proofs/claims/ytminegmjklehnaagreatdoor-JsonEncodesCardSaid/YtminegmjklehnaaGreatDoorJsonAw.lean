/-
  The laws' helpers: awake.
-/
import Derived.Test.YtminegmjklehnaaGreatDoorJsonZ
import Derived.Test.YtminegmjklehnaaGreatDoorJsonSa
import Derived.Test.YtminegmjklehnaaGreatDoorJsonPs
import Derived.Lib.SlBytesConst
namespace Go.Proofs.YtminegmjklehnaaGreatDoor.J
open Go.RowKit Go.Proofs.YtminegmjklehnaaGreatDoor.B
open Go.Proofs.YtminegmjklehnaaGreatDoor.M hiding Bs
open Go.Proofs.YtminegmjklehnaaGreatDoor.C (QRow Turn)
set_option linter.unusedVariables false
set_option linter.unusedSimpArgs false

def awT : Bs := [32, 123, 34, 97, 34, 58, 32, 91, 49, 44, 32, 45, 50, 93, 125, 32]
noncomputable def awJ : Js := manyJ 5 [[97]] [manyJ 4 [] [leafJ 2 1 [], leafJ 2 (-2) []]]
theorem aw_dec : decodeP awT = .ok awJ := by kernel_rfl
theorem aw_enc : encodeP awJ = [123, 34, 97, 34, 58, 91, 49, 44, 45, 50, 93, 125] := by kernel_rfl
theorem aw_e1 : errP [49, 46, 53] = 1 := by kernel_rfl
theorem aw_e2 : errP [123, 34, 97, 34, 58, 49, 44, 34, 97, 34, 58, 50, 125] = 7 := by kernel_rfl
theorem aw_e3 : errP [48, 49] = 3 := by kernel_rfl
theorem aw_e4 : errP [34, 92, 117, 100, 56, 48, 48, 34] = 3 := by kernel_rfl
theorem aw_s1 : sameJ (leafJ 2 1 []) (leafJ 2 1 []) = true := by kernel_rfl
theorem aw_s2 : sameJ (leafJ 1 1 []) (leafJ 2 1 []) = false := by kernel_rfl
/-- the bytes that a text of the call's own makes. -/
theorem bs_lit {w : World} {b : Nat} {cs : Array Value} {e : TypeId} {fr : Nat × Nat} {L : Bs} (h : w.heap[b]? = some (.cells cs e fr)) (hc : cs = (L.map fun c => Value.int .u8 (c.toNat : Int)).toArray) (n c : Nat) (hn : n = L.length) : BsV w (.slice (some ⟨b, 0, none⟩) n c) L := by
  subst hc hn
  exact .inr ⟨b, 0, c, rfl, fun i hi => by
    rw [Nat.zero_add]
    rw [cell_of_row w b i _ e fr h]
    simp [hi]⟩
set_option maxRecDepth 100000 in
set_option maxHeartbeats 8000000 in
theorem awake_calls {w : World} (hT : TabW w) (hP : TabP w) : Calls Tryz.prog 6 #[] w (BRet w true) := by
  have HT := Lib.hid hT
  have HP := Lib.hid hP
  clear hT hP
  have kc := Lib.run_convert_bytes_const (P := Tryz.prog) w 22 5 (awT.map fun c => Value.int .u8 (c.toNat : Int)).toArray 16 16 Tryz.underlying22 Tryz.underlying5
  have h0 := heap_alloc_new w (.cells (awT.map fun c => Value.int .u8 (c.toNat : Int)).toArray 5 (16, 17))
  have hb0 : Below w.heap.size w (w.alloc (.cells (awT.map fun c => Value.int .u8 (c.toNat : Int)).toArray 5 (16, 17))) := (Below.refl _ w).alloc (Nat.le_refl _) _
  have HD := Lib.hid (Decode_calls (bs_lit (L := awT) h0 rfl 16 16 rfl) (by decide) (TabW.tabs (HT.out.below hb0)))
  have HB0 := Lib.hid hb0
  clear h0 hb0
  rw [aw_dec] at HD
  change (convert 22 22 (.slice (some ⟨w.heap.size, 0, none⟩) 16 16)).run Tryz.prog (w.alloc (.cells #[.int .u8 32, .int .u8 123, .int .u8 34, .int .u8 97, .int .u8 34, .int .u8 58, .int .u8 32, .int .u8 91, .int .u8 49, .int .u8 44, .int .u8 32, .int .u8 45, .int .u8 50, .int .u8 93, .int .u8 125, .int .u8 32] 5)) = .ok (.slice (some ⟨w.heap.size, 0, none⟩) 16 16) (w.alloc (.cells (awT.map fun c => Value.int .u8 (c.toNat : Int)).toArray 5 (16, 17))) at kc
  generalize w.alloc (.cells (awT.map fun c => Value.int .u8 (c.toNat : Int)).toArray 5 (16, 17)) = V at *
  obtain ⟨r1, r2, r3⟩ := decode_read (b := awT) (by decide) aw_dec
  have HR2 := Lib.hid r2
  clear r1 r2 r3
  go_enter Tryz.func6, Tryz.ntmps6
  go_wp2_with fail
  refine HD.out.mono ?_
  rintro e w1 ⟨hb1, v, rfl, hv⟩
  obtain ⟨xk, xn, xt, xA, xan, xac, xB, xbn, xbc, rfl⟩ := hv.form
  have HB1 := Lib.hid (keepB HB0.out hb1)
  have hb2 : Below w1.heap.size w1 (w1.alloc (.cells (jcs xk xn xt xA xan xac xB xbn xbc) 27)) := (Below.refl _ w1).alloc (Nat.le_refl _) _
  have HE := Lib.hid (Encode_calls (hv.below hb2) HR2.out.2 (fun _ => HR2.out.1) (HT.out.below (keepB HB1.out hb2)) (HP.out.below (keepB HB1.out hb2)))
  rw [aw_enc] at HE
  have HB2 := Lib.hid (keepB HB1.out hb2)
  clear hb1 hv hb2 HD kc
  go_wp2_with fail
  refine HE.out.mono ?_
  rintro e w2 ⟨hb, v, rfl, hv⟩
  have hcv := conv_bytes hv
  have HB3 := Lib.hid (keepB HB2.out hb)
  have HR1 := Lib.hid (refused_calls [49, 46, 53] w2 (by decide) (HT.out.below HB3.out))
  rw [aw_e1] at HR1
  clear hb hv HE
  go_wp2_with fail
  refine HR1.out.mono ?_
  rintro e w3 ⟨rfl, hb⟩
  have HB4 := Lib.hid (keepB HB3.out hb)
  have HR1 := Lib.hid (refused_calls [123, 34, 97, 34, 58, 49, 44, 34, 97, 34, 58, 50, 125] w3 (by decide) (HT.out.below HB4.out))
  rw [aw_e2] at HR1
  clear hb HB3 HB2 HB1 HB0
  go_wp2_with fail
  refine HR1.out.mono ?_
  rintro e w4 ⟨rfl, hb⟩
  have HB5 := Lib.hid (keepB HB4.out hb)
  have HR1 := Lib.hid (refused_calls [48, 49] w4 (by decide) (HT.out.below HB5.out))
  rw [aw_e3] at HR1
  clear hb HB4
  go_wp2_with fail
  refine HR1.out.mono ?_
  rintro e w5 ⟨rfl, hb⟩
  have HB6 := Lib.hid (keepB HB5.out hb)
  have HR1 := Lib.hid (refused_calls [34, 92, 117, 100, 56, 48, 48, 34] w5 (by decide) (HT.out.below HB6.out))
  rw [aw_e4] at HR1
  clear hb HB5
  go_wp2_with fail
  refine HR1.out.mono ?_
  rintro e w6 ⟨rfl, hb⟩
  have HB7 := Lib.hid (keepB HB6.out hb)
  clear hb HB6
  go_wp2_with fail
  refine (Number_calls 1 w6).mono ?_
  rintro e w7 ⟨rfl, hb⟩
  have HB8 := Lib.hid (keepB HB7.out hb)
  clear hb HB7
  go_wp2_with fail
  refine (Number_calls 1 w7).mono ?_
  rintro e w8 ⟨rfl, hb⟩
  have HB9 := Lib.hid (keepB HB8.out hb)
  have HS := Lib.hid (Same_calls (leafJ 2 1 []) (leafJ 2 1 []) w8 (fun _ => True) (fun _ => True) _ _ _ _ _ _ _ _ _ _ _ _ _ _ _ _ _ _ (leaf_JsV w8 (fun _ => True) 2 1 []) (leaf_JsV w8 (fun _ => True) 2 1 []))
  rw [aw_s1] at HS
  clear hb HB8
  go_wp2_with fail
  refine HS.out.mono ?_
  rintro e w9 ⟨rfl, hb⟩
  have HB10 := Lib.hid (keepB HB9.out hb)
  clear hb HB9
  go_wp2_with fail
  refine (Bool_calls true w9).mono ?_
  rintro e w10 ⟨rfl, hb⟩
  have HB11 := Lib.hid (keepB HB10.out hb)
  clear hb HB10
  go_wp2_with fail
  refine (Number_calls 1 w10).mono ?_
  rintro e w11 ⟨rfl, hb⟩
  have HB12 := Lib.hid (keepB HB11.out hb)
  have HS2 := Lib.hid (Same_calls (leafJ 1 1 []) (leafJ 2 1 []) w11 (fun _ => True) (fun _ => True) _ _ _ _ _ _ _ _ _ _ _ _ _ _ _ _ _ _ (leaf_JsV w11 (fun _ => True) 1 1 []) (leaf_JsV w11 (fun _ => True) 2 1 []))
  rw [aw_s2] at HS2
  clear hb HB11
  go_wp2_with fail
  refine HS2.out.mono ?_
  rintro e w12 ⟨rfl, hb⟩
  have HB13 := Lib.hid (keepB HB12.out hb)
  clear hb HB12
  go_wp2
  go_ret
  exact ⟨rfl, HB13.out⟩
end Go.Proofs.YtminegmjklehnaaGreatDoor.J

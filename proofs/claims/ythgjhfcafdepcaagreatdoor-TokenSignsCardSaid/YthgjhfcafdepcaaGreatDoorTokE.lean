/-
  Tokens: Sign, the program's.
-/
import Derived.Test.YthgjhfcafdepcaaGreatDoorTokD
import Derived.Lib.ConvBytes
namespace Go.Proofs.YthgjhfcafdepcaaGreatDoor.Tk
open Go.RowKit Go.Proofs.YthgjhfcafdepcaaGreatDoor.B Go.Proofs.YthgjhfcafdepcaaGreatDoor.S10
open Go.Proofs.YthgjhfcafdepcaaGreatDoor.M
open Go.Proofs.YthgjhfcafdepcaaGreatDoor.C (QRow Turn)
open Go.Proofs.YthgjhfcafdepcaaGreatDoor.Sh (macF macF_len RdB)
open Go.Proofs.YthgjhfcafdepcaaGreatDoor.S01 (hexF unhexF)
set_option linter.unusedVariables false
set_option linter.unusedSimpArgs false

theorem conv_text (w : World) (q : Bs) : ∃ c w', (convert 9 22 (vs q)).run Tryz.prog w = .ok (.slice (some ⟨w.heap.size, 0, none⟩) q.length c) w' ∧ q.length ≤ c ∧ RdB w' (fun b => w.heap.size ≤ b) (some ⟨w.heap.size, 0, none⟩) q ∧ Below w.heap.size w w' := by
  have hcv := Lib.run_convert_string_bytes (P := Tryz.prog) w 9 22 5 ⟨q.toArray⟩ Tryz.underlying9 Tryz.underlying22 Tryz.underlying5
  rw [sz] at hcv
  refine ⟨_, _, hcv, grownCap_ge _ _ _ _, fun i x hx => ?_, ?_⟩
  · have hi := (List.getElem?_eq_some_iff.1 hx).1
    refine ⟨_, rfl, Nat.le_refl _, ?_⟩
    rw [Addr.add_mid, Nat.zero_add, Lib.bytesWorld_cell _ _ _ _ (by rw [sz]; exact hi)]
    show some (Value.int .u8 ((q.getD i 0).toNat : Int)) = _
    rw [List.getD_eq_getElem?_getD, hx]
    rfl
  · exact ⟨rfl, rfl, rfl, by rw [Lib.bytesWorld_size]; omega, fun k hk => Lib.bytesWorld_at_old w _ _ k hk⟩
theorem rd_bread {w : World} {F : Nat → Prop} {A : Option Addr} {q : Bs} {n : Nat} (h : RdB w F A q) (hn : q.length = n) (hm : n ≤ 9223372036854775807) : Nu.BRead w A n q := by
  refine ⟨hn, by omega, fun hp => ?_⟩
  obtain ⟨ad, rfl⟩ := h.at_ (by omega)
  refine ⟨ad, rfl, fun i hi => ?_⟩
  have := h.get (i := i) (by omega)
  rw [this]
  rfl
theorem ba_three (a b c : Bs) : ba a ++ ba b ++ ba c = ba (a ++ (b ++ c)) := by
  apply ba_ext
  simp [L]
theorem joi_len5 (a b c d e : Bs) : (joi 47 [a, b, c, d, e]).length = a.length + b.length + c.length + d.length + e.length + 4 := by
  simp [joi]; omega
theorem textF_len (c : Cl) (h0 : -9223372036854775808 ≤ c.ex) (h1 : c.ex ≤ 9223372036854775807) : (textF c).length ≤ 100 := by
  unfold textF
  split
  · rename_i h
    unfold okC at h
    simp only [Bool.and_eq_true] at h
    have h2 := name_len h.1.1.1.2
    have h3 := name_len h.1.1.2
    have h4 := whoF_len c
    have h5 := Lib.itoa_length_le c.ex h0 h1
    unfold partsT decF
    rw [joi_len5]
    simp
    omega
  · simp
set_option maxRecDepth 100000 in
set_option maxHeartbeats 4000000 in
theorem Sign_calls {F : Nat → Prop} {A : Option Addr} {n cp : Nat} {l : Bs} (c : Cl) (hz : Szc c) (w : World) (ht : Nu.Tab w) (hn : l.length = n) (hnc : n ≤ cp) (hL : n ≤ 1152921504606840000) (hp : RdB w F A l) :
    Calls Tryz.prog 12 #[.slice A n cp, clV c] w (ShowRet w (signF l c)) := by
  have HZ := Lib.hid hz
  have HT := Lib.hid ht
  have HP := Lib.hid hp.lt
  have HN := Lib.hid hn
  have hlen := textF_len c hz.e0 hz.e1
  have HTX := Lib.hid (Text_calls c hz (w.alloc (.cells (clC c) 26)) (Nu.Tab.below ht ((Below.refl _ w).alloc (Nat.le_refl _) _)))
  have HB0 := Lib.hid ((Below.refl _ w).alloc (Nat.le_refl _) (.cells (clC c) 26))
  have HSG := Lib.hid (show signF l c = if (textF c).isEmpty = true then [] else textF c ++ 47 :: hexF (macF l (textF c)) from rfl)
  clear hz ht hp hn
  obtain ⟨t, htt⟩ : ∃ t, textF c = t := ⟨_, rfl⟩
  rw [htt] at HTX HSG hlen
  clear htt
  obtain ⟨tn, k, i, key, ex⟩ := c
  go_enter Tryz.func12, Tryz.ntmps12
  go_wp2_with fail
  refine HTX.out.mono ?_
  rintro e w1 ⟨rfl, hb1⟩
  have HB1 := Lib.hid (below_more HB0.out hb1)
  clear hb1
  cases hte : t.isEmpty with
  | true =>
    rw [hte] at HSG
    go_wp2
    go_ret
    exact ⟨by rw [HSG.out]; rfl, HB1.out⟩
  | false =>
    rw [hte] at HSG
    obtain ⟨c2, w2, hcv, hc2, hr2, hb2⟩ := conv_text w1 t
    have HR2 := Lib.hid hr2
    have HB2 := Lib.hid (below_more HB1.out hb2)
    clear hr2 hb2
    go_wp2_with fail
    refine (Sh.Mac_calls HN.out hnc hL (HP.out.keep (F' := fun _ => True) fun a v ha hv => ⟨trivial, (HB2.out.cell ha).trans hv⟩) rfl hc2 (by omega) HR2.out).mono ?_
    rintro e w3 ⟨v, rfl, hown, hb3⟩
    obtain ⟨A8, c8, rfl, hc8, hr8⟩ := Sh.BOwn.rd (F := fun _ => True) hown (fun b hb => trivial)
    have HB3 := Lib.hid (below_more HB2.out hb3)
    have HR8 := Lib.hid (rd_bread hr8 rfl (by rw [macF_len]; omega))
    have hml := macF_len l t
    obtain ⟨m, hm⟩ : ∃ m, macF l t = m := ⟨_, rfl⟩
    rw [hm] at HR8 HSG hml ⊢
    rw [hml] at HR8 ⊢
    clear hown hb3 hr8 hm
    go_wp2_with fail
    refine (Nu.Hex_calls A8 32 c8 m _ HR8.out (by omega)).mono ?_
    rintro e w4 ⟨rfl, hb4⟩
    have HB4 := Lib.hid (below_more HB3.out hb4)
    clear hb4
    have hhl := S01.hexF_len m
    go_wp2
    go_ret
    exact ⟨by rw [HSG.out]; exact congrArg Ending.returned (congrArg Value.string (ba_three t [47] (hexF m))), HB4.out⟩
end Go.Proofs.YthgjhfcafdepcaaGreatDoor.Tk

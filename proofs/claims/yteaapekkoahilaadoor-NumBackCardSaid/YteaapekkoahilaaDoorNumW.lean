/-
  The law NumBack, walked.
-/
import Derived.Test.YteaapekkoahilaaDoorNumW1
import Derived.Deep.RegionHeld3
namespace Go.Proofs.YteaapekkoahilaaDoor.Nu
open Go.RowKit Go.Proofs.YteaapekkoahilaaDoor.B Go.Proofs.YteaapekkoahilaaDoor.S01
set_option linter.unusedVariables false
set_option linter.unusedSimpArgs false

theorem self_ne (s : ByteArray) : (s.toList != s.toList) = false := by simp
set_option maxRecDepth 100000 in
set_option maxHeartbeats 2000000 in
theorem NumBack_calls (A : Option Addr) (n c : Nat) (l : List UInt8) (x : Int) (A2 : Option Addr) (n2 c2 : Nat) (l2 : List UInt8) (w : World) (hr : BRead w A n l) (hn : n ≤ 140737488351232) (hA : A = none → n = 0) (x0 : -9223372036854775808 ≤ x) (x1 : x ≤ 9223372036854775807)
    (hr2 : BRead w A2 n2 l2) (hn2 : n2 ≤ 140737488351232) (hA2 : A2 = none → n2 = 0) (ht : Tab w) (he : Errs w) :
    Calls Tryd.prog 10 #[.slice A n c, .int .i64 x, .slice A2 n2 c2] w (TruePost w) := by
  have HR := Lib.hid hr
  have HR2 := Lib.hid hr2
  have HT := Lib.hid ht
  have HE := Lib.hid he
  clear hr hr2 ht he
  obtain ⟨i0, hi, hz0, hz1, hz2⟩ := info_parts info_u8
  have HI := Lib.hid hi; clear hi
  have HZ0 := Lib.hid hz0; clear hz0
  have HZ1 := Lib.hid hz1; clear hz1
  have HZ2 := Lib.hid hz2; clear hz2
  go_enter Tryd.func10, Tryd.ntmps10
  go_wp2_with fail
  refine (awake_calls w HT.out).mono ?_
  rintro e w1 ⟨rfl, hb1⟩
  go_wp2_with fail
  refine (Hex_full A n c l w1 (HR.out.below hb1) hn).mono ?_
  rintro e w2 ⟨rfl, hb2'⟩
  have hb2 := keepB hb1 hb2'
  have hsz : (⟨(hexF l).toArray⟩ : ByteArray).size ≤ 281474976710656 := by
    show (hexF l).toArray.size ≤ _
    rw [List.size_toArray, hexF_len, HR.out.1]; omega
  go_wp2_with fail
  refine (Unhex_calls ⟨(hexF l).toArray⟩ w2 hsz).mono ?_
  intro e w3 h
  obtain ⟨hb3', h⟩ := h
  have hb3 := keepB hb2 hb3'
  obtain ⟨v3, rfl, hown3⟩ : ∃ v, e = .returned (.tuple #[v, .bool true]) ∧ BOwn w3 w2.heap.size v l := by
    have hu : unhexF (⟨(hexF l).toArray⟩ : ByteArray).data.toList = some l := unhex_hex l
    rw [hu] at h
    rcases h with ⟨v, out, h1, h2, h3⟩ | ⟨h1, _⟩
    · cases h1; exact ⟨v, h2, h3⟩
    · cases h1
  have HO3 := Lib.hid hown3
  clear h hsz hown3
  go_wp2_with fail
  refine (Wide_own x w3).mono ?_
  rintro e w4 ⟨v4, rfl, hown4, hb4'⟩
  have hb4 := keepB hb3 hb4'
  have hwl : (wideF x).length = 8 := by simp [wideF]
  obtain ⟨A4, c4, rfl, hr4, _⟩ := own_read hown4 (by rw [hwl]; decide)
  go_wp2_with fail
  refine (Narrow_calls A4 _ c4 (wideF x) w4 hr4).mono ?_
  rintro e w4' ⟨rfl, rfl⟩
  rw [narrow_wide x0 x1]
  have hc1 := own_conv (own_below HO3.out hb4')
  have hc2 := conv_arg (c := c) (HR.out.below hb4) hA
  have hsn := self_ne ⟨l.toArray⟩
  clear hown4 hr4 hwl hb1 hb2 hb3 hb2' hb3' hb4'
  have HBE := Lib.hid (show Below w.heap.size w w4.drew from below_drewN hb4 1)
  have HB := Lib.hid (HR.out.below (w1 := w4.drew) (below_drewN hb4 1))
  by_cases hx : x < 0
  · have HNEG := Lib.hid (putF_neg l hx)
    go_wp2
    refine wp_region_any (by kernel_rfl) ?_
    change wpAny _ _ _ _ _ _ _ (World.drew _)
    refine wpAny_take (i := 0) (v := ?_) rfl (by kernel_rfl) (by kernel_rfl) (by kernel_rfl) (fun _ _ _ h => h) (Or.inl ⟨by kernel_rfl, ?_⟩) ?_
    rotate_left
    · (intro w0; go_simp; try with_reducible rfl)
    try simp only [Act.put, List.getElem_toArray, List.getElem_cons_zero, List.getElem_cons_succ, List.setIfInBounds_toArray, List.set_cons_zero, List.set_cons_succ]
    refine wpAny_take (i := 1) (v := ?_) rfl (by kernel_rfl) (by kernel_rfl) (by kernel_rfl) (fun _ _ _ h => h) (Or.inl ⟨by kernel_rfl, ?_⟩) ?_
    rotate_left
    · (intro w0; go_simp; try with_reducible rfl)
    try simp only [Act.put, List.getElem_toArray, List.getElem_cons_zero, List.getElem_cons_succ, List.setIfInBounds_toArray, List.set_cons_zero, List.set_cons_succ]
    refine wpAny_take (i := 4) (v := ?_) rfl (by kernel_rfl) (by kernel_rfl) (by kernel_rfl) (fun _ _ _ h => h) (Or.inl ⟨by kernel_rfl, ?_⟩) ?_
    rotate_left
    · (intro w0; go_simp; try with_reducible rfl)
    try simp only [Act.put, List.getElem_toArray, List.getElem_cons_zero, List.getElem_cons_succ, List.setIfInBounds_toArray, List.set_cons_zero, List.set_cons_succ]
    refine wpAny_ready (rs := [2, 5]) (by kernel_rfl) (by simp) ?_
    refine (AllReady.cons rfl (fun K hK => ?_) (AllReady.cons rfl (fun K hK => ?_) AllReady.nil))
    · go_simp
      go_at_call 18
      refine (Put_calls A n c l x _ HB.out hn hA x0 x1).mono ?_
      rintro e w5 ⟨v5, rfl, hown5, hb5'⟩
      rw [HNEG.out] at hown5
      have hcv5 := own_conv hown5
      have hcb5 := conv_arg (c := c) (HB.out.below hb5') hA
      have hb5 := keepB HBE.out hb5'
      go_wp2_with fail
      refine wpAny_ready (rs := [3, 5]) (by kernel_rfl) (by simp) ?_
      refine (AllReady.cons rfl (fun K hK => ?_) (AllReady.cons rfl (fun K hK => ?_) AllReady.nil))
      · go_simp
        refine hK _ _ ?_
        clear hK K
        try simp only [Act.put, List.getElem_toArray, List.getElem_cons_zero, List.getElem_cons_succ, List.setIfInBounds_toArray, List.set_cons_zero, List.set_cons_succ]
        refine wpAny_ready (rs := [5]) (by kernel_rfl) (by simp) ?_
        refine (AllReady.cons rfl (fun K hK => ?_) AllReady.nil)
        go_simp
        refine hK _ _ ?_
        clear hK K
        try simp only [Act.put, List.getElem_toArray, List.getElem_cons_zero, List.getElem_cons_succ, List.setIfInBounds_toArray, List.set_cons_zero, List.set_cons_succ]
        refine wpAny_take (i := 6) (v := ?_) rfl (by kernel_rfl) (by kernel_rfl) (by kernel_rfl) (fun _ _ _ h => h) (Or.inl ⟨by kernel_rfl, ?_⟩) ?_
        rotate_left
        · (intro w0; go_simp; try with_reducible rfl)
        try simp only [Act.put, List.getElem_toArray, List.getElem_cons_zero, List.getElem_cons_succ, List.setIfInBounds_toArray, List.set_cons_zero, List.set_cons_succ]
        refine wpAny_take (i := 7) (v := ?_) rfl (by kernel_rfl) (by kernel_rfl) (by kernel_rfl) (fun _ _ _ h => h) (Or.inl ⟨by kernel_rfl, ?_⟩) ?_
        rotate_left
        · (intro w0; go_simp; try with_reducible rfl)
        try simp only [Act.put, List.getElem_toArray, List.getElem_cons_zero, List.getElem_cons_succ, List.setIfInBounds_toArray, List.set_cons_zero, List.set_cons_succ]
        refine wpAny_done (by kernel_rfl) ?_ _
        go_wp2
        go_ret
        exact ⟨rfl, hb5⟩
      · go_simp
        refine hK _ _ ?_
        clear hK K
        try simp only [Act.put, List.getElem_toArray, List.getElem_cons_zero, List.getElem_cons_succ, List.setIfInBounds_toArray, List.set_cons_zero, List.set_cons_succ]
        refine wpAny_ready (rs := [3]) (by kernel_rfl) (by simp) ?_
        refine (AllReady.cons rfl (fun K hK => ?_) AllReady.nil)
        go_simp
        refine hK _ _ ?_
        clear hK K
        try simp only [Act.put, List.getElem_toArray, List.getElem_cons_zero, List.getElem_cons_succ, List.setIfInBounds_toArray, List.set_cons_zero, List.set_cons_succ]
        refine wpAny_take (i := 6) (v := ?_) rfl (by kernel_rfl) (by kernel_rfl) (by kernel_rfl) (fun _ _ _ h => h) (Or.inl ⟨by kernel_rfl, ?_⟩) ?_
        rotate_left
        · (intro w0; go_simp; try with_reducible rfl)
        try simp only [Act.put, List.getElem_toArray, List.getElem_cons_zero, List.getElem_cons_succ, List.setIfInBounds_toArray, List.set_cons_zero, List.set_cons_succ]
        refine wpAny_take (i := 7) (v := ?_) rfl (by kernel_rfl) (by kernel_rfl) (by kernel_rfl) (fun _ _ _ h => h) (Or.inl ⟨by kernel_rfl, ?_⟩) ?_
        rotate_left
        · (intro w0; go_simp; try with_reducible rfl)
        try simp only [Act.put, List.getElem_toArray, List.getElem_cons_zero, List.getElem_cons_succ, List.setIfInBounds_toArray, List.set_cons_zero, List.set_cons_succ]
        refine wpAny_done (by kernel_rfl) ?_ _
        go_wp2
        go_ret
        exact ⟨rfl, hb5⟩
    · have hcb := conv_arg (c := c) HB.out hA
      go_simp
      refine hK _ _ ?_
      clear hK K
      try simp only [Act.put, List.getElem_toArray, List.getElem_cons_zero, List.getElem_cons_succ, List.setIfInBounds_toArray, List.set_cons_zero, List.set_cons_succ]
      refine wpAny_ready (rs := [2]) (by kernel_rfl) (by simp) ?_
      refine (AllReady.cons rfl (fun K hK => ?_) AllReady.nil)
      go_simp
      go_at_call 18
      refine (Put_calls A n c l x _ HB.out hn hA x0 x1).mono ?_
      rintro e w5 ⟨v5, rfl, hown5, hb5'⟩
      rw [HNEG.out] at hown5
      have hcv5 := own_conv hown5
      have hcb5 := conv_arg (c := c) (HB.out.below hb5') hA
      have hb5 := keepB HBE.out hb5'
      go_wp2_with fail
      refine wpAny_ready (rs := [3]) (by kernel_rfl) (by simp) ?_
      refine (AllReady.cons rfl (fun K hK => ?_) AllReady.nil)
      go_simp
      refine hK _ _ ?_
      clear hK K
      try simp only [Act.put, List.getElem_toArray, List.getElem_cons_zero, List.getElem_cons_succ, List.setIfInBounds_toArray, List.set_cons_zero, List.set_cons_succ]
      refine wpAny_take (i := 6) (v := ?_) rfl (by kernel_rfl) (by kernel_rfl) (by kernel_rfl) (fun _ _ _ h => h) (Or.inl ⟨by kernel_rfl, ?_⟩) ?_
      rotate_left
      · (intro w0; go_simp; try with_reducible rfl)
      try simp only [Act.put, List.getElem_toArray, List.getElem_cons_zero, List.getElem_cons_succ, List.setIfInBounds_toArray, List.set_cons_zero, List.set_cons_succ]
      refine wpAny_take (i := 7) (v := ?_) rfl (by kernel_rfl) (by kernel_rfl) (by kernel_rfl) (fun _ _ _ h => h) (Or.inl ⟨by kernel_rfl, ?_⟩) ?_
      rotate_left
      · (intro w0; go_simp; try with_reducible rfl)
      try simp only [Act.put, List.getElem_toArray, List.getElem_cons_zero, List.getElem_cons_succ, List.setIfInBounds_toArray, List.set_cons_zero, List.set_cons_succ]
      refine wpAny_done (by kernel_rfl) ?_ _
      go_wp2
      go_ret
      exact ⟨rfl, hb5⟩
  · have hx0 : 0 ≤ x := by omega
    go_wp2_with fail
    refine (Put_calls none 0 0 [] x w4 (bread_nil w4) (by omega) (fun _ => rfl) x0 x1).mono ?_
    rintro e w5 ⟨v5, rfl, hown5, hb5'⟩
    have hb5 := keepB hb4 hb5'
    obtain ⟨hp1, hp2⟩ := putF_size hx0 x1
    obtain ⟨g, cap, rfl⟩ := own_form hown5 hp1
    obtain ⟨m, hm⟩ : ∃ m, (putF [] x).length = m := ⟨_, rfl⟩
    have hcell := World.ownsRow.cells hown5 rfl
    rw [hm] at hp1 hp2 hown5 ⊢
    have HL := Lib.hid hm
    clear hm hown5 hc1 hc2 HBE HB
    go_wp2_with (at_builtin; go_loud (refine wpList_append_own _ rfl _ _ 22 rfl w5.heap.size 5 i0 (.int .u8 0) 1 1 Tryd.underlying22 HI.out HZ0.out HZ1.out HZ2.out rfl (by decide) (.slice none 0 0) 0 [] rfl (World.ownsRow_nil _ _ _ _) ⟨g, 0, none⟩ m cap ((putF [] x).map vb) rfl ?c0 ?c1 ?c2 ?c3 ?c4 ?c5 ?_))
    case c0 => simp [HL.out]
    case c1 => exact hcell
    case c2 => exact vb_one
    case c3 => unfold maxLen; omega
    case c4 => omega
    case c5 => exact Nat.le_refl _
    intro v6 w6 hown6 hg6 _
    have hown6 : w6.ownsRow w5.heap.size 5 1 v6 m ((putF [] x).map vb) := by simpa using hown6
    have hb6 : Below w.heap.size w w6 := hb5.grown hg6 hb5.size (fun b hb => by cases hb)
    obtain ⟨g6, cap6, cur6, rfl, hge6, hc6⟩ : ∃ g cap cur, v6 = .slice (some ⟨g, 0, none⟩) m cap ∧ w5.heap.size ≤ g ∧ m ≤ cap := by
      rcases hown6.2 with ⟨_, h0⟩ | ⟨g, cap, cur, h', hb, _, h2, _⟩
      · omega
      · exact ⟨g, cap, cur, h', hb, h2⟩
    have HO6 := Lib.hid hown6
    have hs6 := hg6.size
    clear hcell hg6 hown6
    cases A2 with
    | none =>
      obtain rfl := hA2 rfl
      have hrun := fun ty => run_append_none (w := w6) ty ⟨g6, 0, none⟩ m cap6 c2 hc6 HI.out
      have hl2 : l2 = [] := List.eq_nil_of_length_eq_zero HR2.out.1
      have hownA : BOwn w6 w5.heap.size (.slice (some ⟨g6, 0, none⟩) m cap6) (putF [] x ++ l2) := by
        rw [hl2, List.append_nil]
        unfold BOwn
        rw [HL.out]
        exact HO6.out
      have hbA := hb6
      obtain ⟨wA, hwA⟩ : ∃ wA, w6 = wA := ⟨_, rfl⟩
      subst hwA
      have HOA := Lib.hid hownA
      clear hownA
      have hlenA : (putF [] x ++ l2).length = m := by rw [List.length_append, HL.out, HR2.out.1, Nat.add_zero]
      obtain ⟨A7, c7, e7, hr7, _⟩ := own_read HOA.out (by rw [hlenA]; omega)
      rw [hlenA] at hr7
      simp only [Value.slice.injEq] at e7
      obtain ⟨rfl, hj7, rfl⟩ := e7
      clear hj7 hlenA
      go_wp2_with fail
      refine (Get_calls _ _ _ (putF [] x ++ l2) w6 hr7).mono ?_
      rintro e w6' ⟨rfl, rfl⟩
      obtain ⟨hg1, hg2⟩ := get_put hx0 x1 l2
      rw [hg1, hg2, HL.out]
      clear hr7 hg1 hg2 HOA
      go_wp2_with fail
      refine (Show_calls x x0 x1 w6 (HT.out.below hbA)).mono ?_
      rintro e w8 ⟨rfl, hb8'⟩
      have hb8 := keepB hbA hb8'
      have hsz : (⟨(Lib.itoa x).toArray⟩ : ByteArray).size ≤ 281474976710656 := by
        show (Lib.itoa x).toArray.size ≤ _
        have := Lib.itoa_length_le x x0 x1
        rw [List.size_toArray]; omega
      go_wp2_with fail
      refine (Parse_out ⟨(Lib.itoa x).toArray⟩ w8 hsz (HT.out.below hb8) (HE.out.below hb8)).mono ?_
      rintro e w9 ⟨rfl, hb9'⟩
      have hb9 := keepB hb8 hb9'
      clear hsz hb8' hb9' hb8 hbA
      by_cases hbig : (999999999999999999 : Int) < x
      · unfold outF
        generalize (((parseF _).getD 0 : Nat) : Int) = q
        generalize (parseF _).isSome = is
        go_wp2
        go_ret
        exact ⟨rfl, hb9⟩
      · obtain ⟨N, rfl⟩ : ∃ N : Nat, x = (N : Int) := ⟨x.toNat, by omega⟩
        have hp : parseF (⟨(Lib.itoa (N : Int)).toArray⟩ : ByteArray).data.toList = some N := parse_show (by omega)
        rw [hp]
        unfold outF
        clear hp
        go_wp2
        go_ret
        exact ⟨rfl, hb9⟩
    | some ad2 =>
      have hcell2 := news_of (HR2.out.below hb6).1 (fun i hi => by
        obtain ⟨ad', e, hc⟩ := (HR2.out.below hb6).at_ i hi
        cases e; exact hc)
      go_wp2_with (at_builtin; go_loud (refine wpList_append_own _ rfl _ _ 22 rfl w5.heap.size 5 i0 (.int .u8 0) 1 1 Tryd.underlying22 HI.out HZ0.out HZ1.out HZ2.out rfl (by decide) _ m _ rfl HO6.out ad2 n2 c2 (l2.map vb) rfl ?d0 ?d1 ?d2 ?d3 ?d4 ?d5 ?_))
      case d0 => simp [HR2.out.1]
      case d1 => exact hcell2
      case d2 => exact vb_one
      case d3 => unfold maxLen; omega
      case d4 => omega
      case d5 => exact hs6
      intro vA wA hownA0 hgA _
      have hbA : Below w.heap.size w wA := hb6.grown hgA hb6.size (fun b hb => by cases hb; exact Nat.le_trans hb5.size hge6)
      have hownA : BOwn wA w5.heap.size vA (putF [] x ++ l2) := by
        unfold BOwn
        rw [List.length_append, HL.out, HR2.out.1, List.map_append]
        exact hownA0
      clear hownA0 hgA hcell2
      have HOA := Lib.hid hownA
      clear hownA
      have hlenA : (putF [] x ++ l2).length = m + n2 := by rw [List.length_append, HL.out, HR2.out.1]
      obtain ⟨A7, c7, rfl, hr7, _⟩ := own_read HOA.out (by rw [hlenA]; omega)
      rw [hlenA] at hr7 ⊢
      clear hlenA
      go_wp2_with fail
      refine (Get_calls A7 _ c7 (putF [] x ++ l2) wA hr7).mono ?_
      rintro e wA' ⟨rfl, rfl⟩
      obtain ⟨hg1, hg2⟩ := get_put hx0 x1 l2
      rw [hg1, hg2, HL.out]
      clear hr7 hg1 hg2 HOA
      go_wp2_with fail
      refine (Show_calls x x0 x1 wA (HT.out.below hbA)).mono ?_
      rintro e w8 ⟨rfl, hb8'⟩
      have hb8 := keepB hbA hb8'
      have hsz : (⟨(Lib.itoa x).toArray⟩ : ByteArray).size ≤ 281474976710656 := by
        show (Lib.itoa x).toArray.size ≤ _
        have := Lib.itoa_length_le x x0 x1
        rw [List.size_toArray]; omega
      go_wp2_with fail
      refine (Parse_out ⟨(Lib.itoa x).toArray⟩ w8 hsz (HT.out.below hb8) (HE.out.below hb8)).mono ?_
      rintro e w9 ⟨rfl, hb9'⟩
      have hb9 := keepB hb8 hb9'
      clear hsz hb8' hb9' hb8 hbA
      by_cases hbig : (999999999999999999 : Int) < x
      · unfold outF
        generalize (((parseF _).getD 0 : Nat) : Int) = q
        generalize (parseF _).isSome = is
        go_wp2
        go_ret
        exact ⟨rfl, hb9⟩
      · obtain ⟨N, rfl⟩ : ∃ N : Nat, x = (N : Int) := ⟨x.toNat, by omega⟩
        have hp : parseF (⟨(Lib.itoa (N : Int)).toArray⟩ : ByteArray).data.toList = some N := parse_show (by omega)
        rw [hp]
        unfold outF
        clear hp
        go_wp2
        go_ret
        exact ⟨rfl, hb9⟩
end Go.Proofs.YteaapekkoahilaaDoor.Nu

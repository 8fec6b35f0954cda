/-
  JsonNests: the walk.
-/
import Derived.Test.YtminegmjklehnaaDoorJsonNr
namespace Go.Proofs.YtminegmjklehnaaDoor.J
open Go.RowKit Go.Proofs.YtminegmjklehnaaDoor.B
open Go.Proofs.YtminegmjklehnaaDoor.M hiding Bs
open Go.Proofs.YtminegmjklehnaaDoor.C (QRow Turn)
set_option linter.unusedVariables false
set_option linter.unusedSimpArgs false

theorem rep_snoc (n : Nat) (c : UInt8) : List.replicate n c ++ [c] = List.replicate (n + 1) c := by rw [List.replicate_succ']
def nestF (n k : Nat) : Bs := List.replicate n 91 ++ (49 :: List.replicate k 93)
theorem nestF_snoc (n k : Nat) : nestF n k ++ [93] = nestF n (k + 1) := by
  unfold nestF
  rw [List.append_assoc, List.cons_append, rep_snoc]
theorem nestF_len (n k : Nat) : (nestF n k).length = n + k + 1 := by unfold nestF; simp; omega
theorem one_new (w : World) (x : Value) (t : TypeId) : ∀ j u, [x][j]? = some u → (w.alloc (.cells #[x] t)).cell? ((⟨w.heap.size, 0, none⟩ : Addr).add j) = some u := jc_new w [x] t
theorem bc_rep (k : Nat) : bc (List.replicate (k + 1) 91) = List.replicate k (Value.int .u8 91) ++ [Value.int .u8 91] := by rw [← rep_snoc]; simp [bc]
theorem bc_nest0 (k : Nat) : bc (nestF k 0) = List.replicate k (Value.int .u8 91) ++ [Value.int .u8 49] := by unfold nestF; simp [bc]
theorem bc_nest (k i : Nat) : bc (nestF k (i + 1)) = bc (nestF k i) ++ [Value.int .u8 93] := by rw [← nestF_snoc]; simp [bc]
theorem bc_len (l : Bs) : (bc l).length = l.length := by simp [bc]
theorem bc_app (a b : Bs) : bc a ++ bc b = bc (a ++ b) := by simp [bc]
set_option maxRecDepth 100000 in
set_option maxHeartbeats 16000000 in
theorem nests_calls (n : Int) {w : World} (hT : TabW w) (hP : TabP w) : Calls Tryd.prog 5 #[.int .i64 n] w (BRet w true) := by
  have HAW := Lib.hid (awake_calls hT hP)
  have HT := Lib.hid hT
  have HP := Lib.hid hP
  clear hT hP
  by_cases hn : n < 0
  · go_enter Tryd.func5, Tryd.ntmps5
    go_wp2_with fail
    refine HAW.out.mono ?_
    rintro e w1 ⟨rfl, hb⟩
    have HB := Lib.hid hb
    clear hb
    go_wp2
    go_ret
    exact ⟨rfl, HB.out⟩
  by_cases hn2 : 200 < n
  · go_enter Tryd.func5, Tryd.ntmps5
    go_wp2_with fail
    refine HAW.out.mono ?_
    rintro e w1 ⟨rfl, hb⟩
    have HB := Lib.hid hb
    clear hb
    go_wp2
    go_ret
    exact ⟨rfl, HB.out⟩
  obtain ⟨N, rfl⟩ := Int.eq_ofNat_of_zero_le (Int.not_lt.1 hn)
  have hN : N ≤ 200 := by omega
  have hn' : ¬ (N : Int) < 0 := hn
  have hn2' : ¬ (200 : Int) < N := hn2
  clear hn hn2
  obtain ⟨i0, hi, hz0, hz1, hz2⟩ := info_parts infoByte
  have HI := Lib.hid hi; clear hi
  have HZ0 := Lib.hid hz0; clear hz0
  have HZ1 := Lib.hid hz1; clear hz1
  have HZ2 := Lib.hid hz2; clear hz2
  go_enter Tryd.func5, Tryd.ntmps5
  go_wp2_with fail
  refine HAW.out.mono ?_
  rintro e w1 ⟨rfl, hb⟩
  have HB := Lib.hid hb
  clear hb HAW
  go_wp2_with fail
  go_loopw [4, 5] (fun v4 v5 wr => ∃ k : Nat, k ≤ N ∧ v5 = .int .i64 k ∧ Hid (wr.ownsRow w.heap.size 5 1 v4 k (bc (List.replicate k 91))) ∧ Hid (Below w.heap.size w wr)) (fun _ v5 _ => N - (intOf v5).toNat)
  case atStart => exact ⟨0, Nat.zero_le _, rfl, Lib.hid (World.ownsRow_nil _ _ _ _), HB⟩
  case round =>
    clear HB
    obtain ⟨k, hk, rfl, HO, HB⟩ := hrel
    by_cases hkN : k < N
    · have HO2 := Lib.hid (row_below HO.out ((Below.refl _ wr).alloc (Nat.le_refl _) (.cells #[.int .u8 91] 5)))
      have HN := Lib.hid (one_new wr (.int .u8 91) 5)
      have HS2 := Lib.hid (show w.heap.size ≤ (wr.alloc (.cells #[.int .u8 91] 5)).heap.size from Nat.le_trans HB.out.size (le_alloc _ _))
      have HB2 := Lib.hid (belAlloc HB.out (.cells #[.int .u8 91] 5))
      go_wp2_with (at_builtin; go_loud (refine wpList_append_own _ rfl _ _ 28 rfl w.heap.size 5 i0 (.int .u8 0) 1 1 Tryd.underlying28 HI.out HZ0.out HZ1.out HZ2.out rfl (by decide) _ k _ rfl HO2.out ⟨wr.heap.size, 0, none⟩ 1 1 (bc [91]) rfl rfl ?c1 ?c2 (by unfold maxLen; omega) (by omega) ?c5 ?_))
      case c1 => exact HN.out
      case c2 => intro u hu; simp at hu; subst hu; rfl
      case c5 => exact HS2.out
      intro v6 w6 ho6 hg6 hb6
      have HO6 := Lib.hid (show w6.ownsRow w.heap.size 5 1 v6 (k + 1) (bc (List.replicate (k + 1) 91)) by rw [bc_rep]; exact ho6)
      have HB6 := Lib.hid (HB2.out.grown hg6 HS2.out (fun g hg => row_own HO2.out g hg))
      clear ho6 hg6 hb6
      go_wp2
      exact ⟨⟨k + 1, by omega, by go_num, HO6, HB6⟩, by simp [intOf]; omega⟩
    · have hkN' : k = N := by omega
      subst hkN'
      have HO2 := Lib.hid (row_below HO.out ((Below.refl _ wr).alloc (Nat.le_refl _) (.cells #[.int .u8 49] 5)))
      have HN := Lib.hid (one_new wr (.int .u8 49) 5)
      have HS2 := Lib.hid (show w.heap.size ≤ (wr.alloc (.cells #[.int .u8 49] 5)).heap.size from Nat.le_trans HB.out.size (le_alloc _ _))
      have HB2 := Lib.hid (belAlloc HB.out (.cells #[.int .u8 49] 5))
      go_wp2_with (at_builtin; go_loud (refine wpList_append_own _ rfl _ _ 28 rfl w.heap.size 5 i0 (.int .u8 0) 1 1 Tryd.underlying28 HI.out HZ0.out HZ1.out HZ2.out rfl (by decide) _ k _ rfl HO2.out ⟨wr.heap.size, 0, none⟩ 1 1 (bc [49]) rfl rfl ?d1 ?d2 (by unfold maxLen; omega) (by omega) ?d5 ?_))
      case d1 => exact HN.out
      case d2 => intro u hu; simp at hu; subst hu; rfl
      case d5 => exact HS2.out
      intro v6 w6 ho6 hg6 hb6
      have HO6 := Lib.hid (show w6.ownsRow w.heap.size 5 1 v6 (k + 0 + 1) (bc (nestF k 0)) by rw [bc_nest0]; exact ho6)
      have HB6 := Lib.hid (HB2.out.grown hg6 HS2.out (fun g hg => row_own HO2.out g hg))
      clear ho6 hg6 hb6 HO HO2 HN HS2 HB2 HB
      go_wp2_with fail
      go_loopw [4, 6] (fun v4 v6 wr => ∃ i : Nat, i ≤ k ∧ v6 = .int .i64 i ∧ Hid (wr.ownsRow w.heap.size 5 1 v4 (k + i + 1) (bc (nestF k i))) ∧ Hid (Below w.heap.size w wr)) (fun _ v6 _ => k - (intOf v6).toNat)
      case atStart => exact ⟨0, Nat.zero_le _, rfl, HO6, HB6⟩
      case round =>
        clear HO6 HB6
        obtain ⟨i, hik, rfl, HO, HB⟩ := hrel
        by_cases hi : i < k
        · have HO2 := Lib.hid (row_below HO.out ((Below.refl _ wr).alloc (Nat.le_refl _) (.cells #[.int .u8 93] 5)))
          have HN := Lib.hid (one_new wr (.int .u8 93) 5)
          have HS2 := Lib.hid (show w.heap.size ≤ (wr.alloc (.cells #[.int .u8 93] 5)).heap.size from Nat.le_trans HB.out.size (le_alloc _ _))
          have HB2 := Lib.hid (belAlloc HB.out (.cells #[.int .u8 93] 5))
          go_wp2_with (at_builtin; go_loud (refine wpList_append_own _ rfl _ _ 28 rfl w.heap.size 5 i0 (.int .u8 0) 1 1 Tryd.underlying28 HI.out HZ0.out HZ1.out HZ2.out rfl (by decide) _ (k + i + 1) _ rfl HO2.out ⟨wr.heap.size, 0, none⟩ 1 1 (bc [93]) rfl rfl ?e1 ?e2 (by unfold maxLen; omega) (by omega) ?e5 ?_))
          case e1 => exact HN.out
          case e2 => intro u hu; simp at hu; subst hu; rfl
          case e5 => exact HS2.out
          intro v6 w6 ho6 hg6 hb6
          have HO6 := Lib.hid (show w6.ownsRow w.heap.size 5 1 v6 (k + (i + 1) + 1) (bc (nestF k (i + 1))) by rw [bc_nest]; exact ho6)
          have HB6 := Lib.hid (HB2.out.grown hg6 HS2.out (fun g hg => row_own HO2.out g hg))
          clear ho6 hg6 hb6
          go_wp2
          exact ⟨⟨i + 1, by omega, by go_num, HO6, HB6⟩, by simp [intOf]; omega⟩
        · have hik' : i = k := by omega
          subst hik'
          have ho := HO.out
          rw [← nestF_len] at ho
          have hbv := row_bytes ho
          have HV := Lib.hid hbv
          have HD := Lib.hid (Decode_calls hbv (by rw [nestF_len]; omega) (TabW.tabs (HT.out.below HB.out)))
          clear ho hbv
          go_wp2_with fail
          refine HD.out.mono ?_
          intro e w5 h5
          obtain ⟨hb5, hM⟩ := h5
          have HB5 := Lib.hid (keepB HB.out hb5)
          have HV5 := Lib.hid (HV.out.below hb5)
          clear hb5
          by_cases h12 : 12 < i
          · rw [show decodeP (nestF i i) = .error 9 from nest_too i h12] at hM
            have hM : e = .returned (.tuple #[jAgg 0 0 [] none 0 0 none 0 0, .int .i64 9]) := hM
            subst hM
            have HB6 := Lib.hid (belAlloc HB5.out (.cells (jcs 0 0 [] none 0 0 none 0 0) 25))
            have h12' : (12 : Int) < (i : Int) := by omega
            go_wp2
            go_ret
            exact ⟨rfl, HB6.out⟩
          · obtain ⟨hd, he⟩ := nest_decode i (by omega)
            have he : encodeP (nestJ i) = nestF i i := he
            rw [show decodeP (nestF i i) = .ok (nestJ i) from hd] at hM
            obtain ⟨v, rfl, hv⟩ := hM
            obtain ⟨xk, xn, xt, xA, xan, xac, xB, xbn, xbc, rfl⟩ := hv.form
            have h12' : ¬ (12 : Int) < (i : Int) := by omega
            obtain ⟨r1, r2, r3⟩ := decode_read (b := nestF i i) (by rw [nestF_len]; omega) hd
            have hb6 : Below w5.heap.size w5 (w5.alloc (.cells (jcs xk xn xt xA xan xac xB xbn xbc) 25)).drew := below_drewN ((Below.refl _ w5).alloc (Nat.le_refl _) _) 1
            have HEN := Lib.hid (Encode_calls (hv.below hb6) r2.2 (fun _ => r2.1) (HT.out.below (keepB HB5.out hb6)) (HP.out.below (keepB HB5.out hb6)))
            rw [he] at HEN
            have HB6 := Lib.hid (keepB HB5.out hb6)
            have HV6 := Lib.hid (HV5.out.below hb6)
            have hcv := conv_bytes HV6.out
            clear hb6 hv hd he r1 r2 r3
            go_wp2_with fail
            go_region_law ((go_simp; refine HEN.out.mono ?_; intro e w7 h7
                            obtain ⟨hb, v, rfl, hv⟩ := h7
                            have hcv7 := conv_bytes (HV6.out.below hb)
                            have hcve := conv_bytes hv
                            have HB7 := Lib.hid (keepB HB6.out hb)
                            clear hb hv))
            all_goals
              go_wp2
              go_ret
              exact ⟨rfl, HB7.out⟩
end Go.Proofs.YtminegmjklehnaaDoor.J

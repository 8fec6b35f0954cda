/-
  HTTP: heads, walked.
-/
import Derived.Test.YtomancadpdccaaaGreatDoorHtJ
import Derived.Maps.OwnOps
import Derived.Carry
import Derived.Deep.RegionLaw
namespace Go.Proofs.YtomancadpdccaaaGreatDoor.Ht
open Go.RowKit Go.Proofs.YtomancadpdccaaaGreatDoor.B
open Go.Proofs.YtomancadpdccaaaGreatDoor.M hiding Bs
open Go.Proofs.YtomancadpdccaaaGreatDoor.C (QRow Turn OwnF Elem upd)
set_option linter.unusedVariables false
set_option linter.unusedSimpArgs false

def HsRet (w : World) (lines : List Bs) (e : Ending) (w' : World) : Prop := Below w.heap.size w w' ∧
  if 16 < lines.length then e = .returned (.tuple #[.map none, .int .i64 431]) else match hdsF lines with
  | none => e = .returned (.tuple #[.map none, .int .i64 400])
  | some hs => ∃ mb, e = .returned (.tuple #[.map (some mb), .int .i64 0]) ∧ MapS w' w.heap.size mb hs
theorem take_snoc (l : List Bs) {i : Nat} (hi : i < l.length) : l.take (i + 1) = l.take i ++ [l.getD i []] := by
  rw [List.take_add_one, List.getElem?_eq_getElem hi, List.getD_eq_getElem?_getD, List.getElem?_eq_getElem hi]
  rfl
theorem getD_mem (l : List Bs) {i : Nat} (hi : i < l.length) : l.getD i [] ∈ l := by
  rw [List.getD_eq_getElem?_getD, List.getElem?_eq_getElem hi]
  exact List.getElem_mem hi
theorem cut_no {s t : Bs} (h : Lib.index s t < 0) : Lib.cut s t = (s, [], false) := by
  unfold Lib.cut; rw [if_neg (by omega)]
theorem cut_at {s t : Bs} {k : Nat} (h : Lib.index s t = k) : Lib.cut s t = (s.take k, s.drop (k + t.length), true) := by
  unfold Lib.cut; rw [h, if_pos (by omega), Int.toNat_natCast]
theorem named_ascii {s : Bs} (h : s.all named = true) : ∀ c ∈ s, c.toNat < 128 := fun c hc => by
  have h1 := List.all_eq_true.1 h c hc
  have := all256 (fun c => !named c || decide (c.toNat < 128)) (by decide +kernel) c
  simp only [Bool.or_eq_true, Bool.not_eq_true', decide_eq_true_eq] at this
  rcases this with h2 | h2
  · rw [h1] at h2; cases h2
  · exact h2
theorem low_named {s : Bs} : (low s).length = s.length := low_length s
set_option maxRecDepth 100000 in
set_option maxHeartbeats 8000000 in
theorem heads_calls (lines : List Bs) (A : Option Addr) (n c : Nat) (w : World) (hr : RdS w A lines) (hn : lines.length = n) (hnm : n ≤ 1000000) (hl : ∀ x ∈ lines, x.length ≤ 1000000) (hm : Mx w) :
    Calls Tryz.prog 45 #[.slice A n c] w (HsRet w lines) := by
  obtain ⟨i0, hi, hz0, hz1, hz2⟩ := info_parts info_s
  have HI := Lib.hid hi
  have HZ0 := Lib.hid hz0
  have HZ1 := Lib.hid hz1
  have HZ2 := Lib.hid hz2
  have HR := Lib.hid hr
  have HM := Lib.hid hm
  have HL := Lib.hid hl
  have HMP := Lib.hid (MapS.made w)
  have HB0 := Lib.hid ((Below.refl _ w).alloc (Nat.le_refl _) (.map #[] 0))
  clear hi hz0 hz1 hz2 hr hm hl
  have hmm := @run_makeMap Tryz.prog
  go_enter Tryz.func45, Tryz.ntmps45
  by_cases h16 : 16 < n
  · have h16' : (16 : Int) < (n : Int) := by omega
    go_wp2
    go_ret2
    exact ⟨HB0.out, by rw [hn, if_pos h16]; rfl⟩
  · have h16' : ¬ (16 : Int) < (n : Int) := by omega
    go_wp2_with fail
    go_loopw [6, 7, 8, 9, 16, 20] (fun v6 v7 v8 v9 v16 v20 wr => ∃ (i : Nat) (acc : List Hd), i ≤ n ∧ v16 = .int .i64 i ∧ Hid (hdsF (lines.take i) = some acc) ∧ Hid (MapS wr w.heap.size w.heap.size acc) ∧ Hid (Below w.heap.size w wr)) (fun _ _ _ _ v16 _ _ => n - (intOf v16).toNat)
    case atStart => exact ⟨0, [], Nat.zero_le _, rfl, Lib.hid rfl, HMP, HB0⟩
    case round =>
      clear HMP HB0
      obtain ⟨i, acc, hi, rfl, HA, HMP, HB⟩ := hrel
      have i0' : (0 : Int) ≤ (i : Int) := by omega
      by_cases hlt : i < n
      · have hlt' : (i : Int) < (n : Int) := by omega
        have hRr := HR.out.below HB.out
        obtain ⟨ad, rfl⟩ := hRr.at_ (by omega)
        have hc := hRr.get (i := i) (by omega)
        have hxm := getD_mem lines (i := i) (by omega)
        have hts := take_snoc lines (i := i) (by omega)
        have hll := HL.out _ hxm
        have hal : acc.length ≤ 1000000 := by
          have := hds_len HA.out
          rw [List.length_take] at this
          omega
        obtain ⟨L, hL⟩ : ∃ L, lines.getD i [] = L := ⟨_, rfl⟩
        rw [hL] at hc hxm hts hll
        clear hL hRr
        have HNO := Lib.hid (show hdF L = none → hdsF lines = none from fun h => hds_none hxm h)
        have HYS := Lib.hid (show ∀ h, hdF L = some h → hdsF (lines.take (i + 1)) = some (acc ++ [h]) from fun h hh => by rw [hts, hds_snoc, HA.out, hh])
        clear hts hxm
        have hmx := HM.out.below HB.out
        have HCT := Lib.hid (Cut_c L [58] wr (by omega) hmx)
        have hge := Lib.index_ge L [58]
        clear hmx
        go_wp2_with fail
        refine HCT.out.mono ?_
        rintro e w1 ⟨rfl, hb1⟩
        have HB1 := Lib.hid hb1
        have HBW := Lib.hid (keepB HB.out hb1)
        clear hb1 HCT
        by_cases h0 : Lib.index L [58] < 0
        · have HP := Lib.hid (HNO.out (hd_short (by omega)))
          rw [cut_no h0]
          clear h0 hge
          go_wp2
          go_ret2
          exact ⟨HBW.out, by rw [hn, if_neg h16, HP.out]; rfl⟩
        · obtain ⟨k, hk⟩ : ∃ k : Nat, Lib.index L [58] = k := ⟨(Lib.index L [58]).toNat, by omega⟩
          have hkl := idx_room hk
          rw [cut_at hk]
          rw [show k + ([58] : Bs).length = k + 1 from rfl]
          cases k with
          | zero =>
            have HP := Lib.hid (HNO.out (hd_short (by omega)))
            clear hk h0 hge
            rw [List.take_zero]
            go_wp2
            go_ret2
            exact ⟨HBW.out, by rw [hn, if_neg h16, HP.out]; rfl⟩
          | succ k =>
          have HD := Lib.hid (hd_at hk (by omega))
          clear h0 hge hk
          have hNl : (L.take (k + 1)).length = k + 1 := by rw [List.length_take]; omega
          have hVl : (L.drop (k + 1 + 1)).length ≤ 1000000 := by rw [List.length_drop]; omega
          obtain ⟨N, hN⟩ : ∃ N, L.take (k + 1) = N := ⟨_, rfl⟩
          obtain ⟨V, hV⟩ : ∃ V, L.drop (k + 1 + 1) = V := ⟨_, rfl⟩
          rw [hN] at hNl HD ⊢
          rw [hV] at hVl HD ⊢
          clear hN hV
          have hNe : N.isEmpty = false := by
            rw [List.isEmpty_eq_false_iff]
            intro e
            rw [e] at hNl
            simp at hNl
          have HAN := Lib.hid (fun W => all_named N (by omega) W)
          have HAV := Lib.hid (fun W => all_told V (by omega) W)
          have HLOW := Lib.hid (fun W (h : N.all named = true) => ToLower_c N W (by omega) (named_ascii h))
          have HTRM := Lib.hid (fun W => Trim_c V W (by omega))
          obtain ⟨bn, hbn⟩ : ∃ b, N.all named = b := ⟨_, rfl⟩
          obtain ⟨bv, hbv⟩ : ∃ b, V.all told = b := ⟨_, rfl⟩
          rw [hbn] at HAN HD HLOW
          rw [hbv] at HAV HD
          clear hbn hbv
          cases bn with
          | false =>
            have HP := Lib.hid (HNO.out (by rw [HD.out]; rfl))
            go_wp2_with fail
            refine (HAN.out _).mono ?_
            rintro e w2 ⟨rfl, rfl⟩
            go_wp2
            go_ret2
            exact ⟨HBW.out, by rw [hn, if_neg h16, HP.out]; rfl⟩
          | true =>
            cases bv with
            | false =>
              have HP := Lib.hid (HNO.out (by rw [HD.out]; rfl))
              go_wp2_with fail
              refine (HAN.out _).mono ?_
              rintro e w2 ⟨rfl, rfl⟩
              go_wp2_with fail
              refine (HAV.out _).mono ?_
              rintro e w2 ⟨rfl, rfl⟩
              go_wp2
              go_ret2
              exact ⟨HBW.out, by rw [hn, if_neg h16, HP.out]; rfl⟩
            | true =>
              have HYS2 := Lib.hid (HYS.out ⟨low N, trim V⟩ (by rw [HD.out]; rfl))
              clear HNO HYS HD
              go_wp2_with fail
              refine (HAN.out _).mono ?_
              rintro e w2 ⟨rfl, rfl⟩
              go_wp2_with fail
              refine (HAV.out _).mono ?_
              rintro e w2 ⟨rfl, rfl⟩
              go_wp2_with fail
              refine (HLOW.out _ (by trivial)).mono ?_
              rintro e w3 ⟨rfl, hb3⟩
              have HB3 := Lib.hid (keepB HBW.out hb3)
              have hM3 := (HMP.out.below HB1.out).below hb3
              clear hb3
              have hql : (low N).length ≤ 1000000 := by rw [low_length]; omega
              obtain ⟨q, hq⟩ : ∃ q, low N = q := ⟨_, rfl⟩
              rw [hq] at HYS2 hql ⊢
              obtain ⟨t, ht⟩ : ∃ t, trim V = t := ⟨_, rfl⟩
              rw [ht] at HYS2 HTRM
              obtain ⟨u, uA, uc, rfl, hlook, hrow, hput⟩ := hM3.put hal q hql
              have HLK := Lib.hid hlook
              have HRW := Lib.hid hrow
              have HPT := Lib.hid hput
              have hvl := vals_len acc q
              obtain ⟨m, hm⟩ : ∃ m, (valsF acc q).length = m := ⟨_, rfl⟩
              rw [hm] at HLK HRW HPT hvl
              obtain ⟨vss, hvss⟩ : ∃ l, (valsF acc q).map vs = l := ⟨_, rfl⟩
              rw [hvss] at HRW HPT
              clear hlook hrow hput hM3 hq ht hm hvss HLOW HAN HAV
              have hk0 := HLK.out w3.drew (drewN_below w3 1)
              have HBD := Lib.hid (drewN_below w3 1)
              go_wp2_with fail
              go_region_law (first
                | (go_simp; (with_reducible refine (HTRM.out _).mono ?_); rintro e w4 ⟨rfl, hb4⟩
                   have HB34 := Lib.hid (keepB HBD.out hb4)
                   have hk4 := HLK.out w4 HB34.out
                   have hk4a := HLK.out (w4.alloc (.cells #[vs t] 9)) (belAlloc HB34.out _)
                   have HQ4 := Lib.hid (HRW.out (w4.alloc (.cells #[vs t] 9)) (belAlloc HB34.out _))
                   clear hb4)
                | (refine step_append_q rfl _ _ 44 rfl 9 i0 (.string ByteArray.empty) 1 16 Tryz.underlying44 HI.out HZ0.out HZ1.out HZ2.out rfl (by decide) (.slice uA m uc) m vss rfl HQ4.out ⟨w4.heap.size, 0, none⟩ 1 1 [vs t] rfl rfl (cell_one_new _ _ _) (by intro u hu; rw [List.mem_singleton.1 hu]; rfl) (by unfold maxLen; omega) (by omega) ?_
                   intro v' w5 hq5 hg5 hown5
                   obtain ⟨w6, hrun6, hM6, hB6⟩ := HPT.out (w4.alloc (.cells #[vs t] 9)) t v' w5 (belAlloc HB34.out _) hq5 hg5 hown5
                   have HM6 := Lib.hid hM6
                   have HB6 := Lib.hid (hB6 w (keepB HB3.out (belAlloc HB34.out _)))
                   clear hq5 hg5 hown5 hM6 hB6))
              all_goals
                go_wp2
                exact ⟨⟨i + 1, _, by omega, by go_num, HYS2, HM6, HB6⟩, by simp [intOf]; omega⟩
      · have hie : i = n := by omega
        subst hie
        have hlt' : ¬ (i : Int) < (i : Int) := by omega
        have HP := Lib.hid (show hdsF lines = some acc by have := HA.out; rwa [← hn, List.take_length] at this)
        go_wp2_with fail
        go_ret2
        exact ⟨HB.out, by rw [hn, if_neg h16, HP.out]; exact ⟨_, rfl, HMP.out⟩⟩
end Go.Proofs.YtomancadpdccaaaGreatDoor.Ht

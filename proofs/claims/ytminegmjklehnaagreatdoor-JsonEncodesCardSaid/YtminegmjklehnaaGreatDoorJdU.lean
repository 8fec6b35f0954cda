/-
  The document's JSON: quote. Printed by wip/tools/gen_jd_qu.py.
-/
import Derived.Test.YtminegmjklehnaaGreatDoorJsonE
import Derived.Test.YtminegmjklehnaaGreatDoorJdAH
import Derived.Test.YtminegmjklehnaaGreatDoorJsonQu
import Derived.Test.YtminegmjklehnaaGreatDoorJsonNr
import Derived.Test.YtminegmjklehnaaGreatDoorNumZ
namespace Go.Proofs.YtminegmjklehnaaGreatDoor.J
open Go.RowKit Go.Proofs.YtminegmjklehnaaGreatDoor.B
open Go.Proofs.YtminegmjklehnaaGreatDoor.M hiding Bs
open Go.Proofs.YtminegmjklehnaaGreatDoor.C (QRow Turn)
set_option linter.unusedVariables false
set_option linter.unusedSimpArgs false

def OwnB (w : World) (B : Nat) (v : Value) (l : Bs) : Prop := w.ownsRow B 5 1 v l.length (bc l)
theorem OwnB.of {w : World} {B : Nat} {v : Value} {l m : Bs} {n k : Nat} (h : w.ownsRow B 5 1 v (n + k) (bc l ++ bc m)) (hn : l.length = n) (hk : m.length = k) : OwnB w B v (l ++ m) := by
  subst hn hk
  unfold OwnB
  rw [List.length_append, show bc (l ++ m) = bc l ++ bc m by unfold bc; rw [List.map_append]]
  exact h
theorem OwnB.row {w : World} {B : Nat} {v : Value} {l : Bs} {n : Nat} (h : OwnB w B v l) (hn : l.length = n) : w.ownsRow B 5 1 v n (bc l) := by subst hn; exact h
theorem OwnB.below {w w' : World} {B : Nat} {v : Value} {l : Bs} (h : OwnB w B v l) (hb : Below w.heap.size w w') : OwnB w' B v l := row_below h hb
theorem OwnB.conv {w : World} {B : Nat} {v : Value} {l : Bs} (h : OwnB w B v l) : (convert 22 9 v).run Tryz.prog w = .ok (vs l) w := row_conv h
theorem bc_cells_new (w : World) (l : Bs) : ∀ j u, (bc l)[j]? = some u → (w.alloc (.cells (bc l).toArray 5)).cell? ((⟨w.heap.size, 0, none⟩ : Addr).add j) = some u := fun j u hu => by
  rw [Addr.add_lit, Nat.zero_add, cell_of_row _ _ _ _ _ (0, 0) (heap_alloc_new w _)]
  simpa using hu
theorem jc_newU (w : World) (cs : List Value) (t : TypeId) : ∀ j u, cs[j]? = some u → (w.alloc (.cells cs.toArray t)).cell? ((⟨w.heap.size, 0, none⟩ : Addr).add j) = some u := fun j u hu => by
  rw [Addr.add_lit, Nat.zero_add, cell_of_row _ _ _ _ _ (0, 0) (heap_alloc_new w _)]
  simpa using hu
theorem bc_oneU (l : Bs) : ∀ u ∈ bc l, u.oneCell' = true := by
  intro u hu
  obtain ⟨b, -, rfl⟩ := List.mem_map.1 hu
  rfl
theorem sgn_hex : ∀ n : Fin 16, S01.sgn n.val = hexC n.val := by decide
theorem hexF_one (c : UInt8) : S01.hexF [c] = [hexC (c.toNat / 16), hexC (c.toNat % 16)] := by
  have h := c.toNat_lt
  have h1 := sgn_hex ⟨c.toNat / 16, by omega⟩
  have h2 := sgn_hex ⟨c.toNat % 16, by omega⟩
  show [S01.sgn (c.toNat / 16), S01.sgn (c.toNat % 16)] = _
  rw [h1, h2]
theorem own_gr {w w1 w2 : World} {B : Nat} {v : Value} {n : Nat} {xs : List Value} (hb : Below B w w1) (ho : w1.ownsRow B 5 1 v n xs) (hB : B ≤ w1.heap.size) (hg : w1.grownBy w2 v.ownBlock) : Below B w w2 :=
  hb.grown hg hB (fun g hg => row_own ho g hg)
theorem q_step (t : Bs) {i : Nat} {c : UInt8} (h : t[i]? = some c) : (34 :: (t.take (i + 1)).flatMap quoteC) = (34 :: (t.take i).flatMap quoteC) ++ quoteC c := by
  rw [List.take_add_one, h, List.flatMap_append]
  simp
set_option maxRecDepth 100000 in
set_option maxHeartbeats 16000000 in
theorem dquote_calls (t : Bs) (w : World) (hl : t.length ≤ 1000000000) : Calls Tryz.prog 65 #[vs t] w (ShowRet w (quoteT t)) := by
  obtain ⟨i0, hi, hz0, hz1, hz2⟩ := info_parts infoByte
  have HI := Lib.hid hi; clear hi
  have HZ0 := Lib.hid hz0; clear hz0
  have HZ1 := Lib.hid hz1; clear hz1
  have HZ2 := Lib.hid hz2; clear hz2
  have hsz := sz t
  have HO0 := Lib.hid (show OwnB (w.alloc (.cells (bc [34]).toArray 5)) w.heap.size (.slice (some ⟨w.heap.size, 0, none⟩) 1 1) [34] from World.ownsRow_lit w (bc [34]).toArray 1 (Nat.le_refl _) (by unfold maxLen; omega) rfl)
  have HB0 := Lib.hid ((Below.refl _ w).alloc (Nat.le_refl _) (.cells (bc [34]).toArray 5))
  go_enter Tryz.func65, Tryz.ntmps65
  go_wp2_with fail
  go_loopw [3, 4, 5] (fun v3 v4 v5 wr => ∃ (i : Nat) (acc : Bs), i ≤ t.length ∧ v4 = .int .i64 i ∧ Hid (34 :: (t.take i).flatMap quoteC = acc) ∧ acc.length ≤ 6 * i + 1 ∧ Hid (OwnB wr w.heap.size v3 acc) ∧ Hid (Below w.heap.size w wr)) (fun _ v4 _ _ => t.length - (intOf v4).toNat)
  case atStart => exact ⟨0, [34], Nat.zero_le _, rfl, Lib.hid rfl, by simp, HO0, HB0⟩
  case round =>
    clear HO0 HB0
    obtain ⟨i, acc, hi, rfl, HA, hal, HO, HB⟩ := hrel
    by_cases hin : i < t.length
    · have hin' : (i : Int) < (t.length : Int) := by omega
      obtain ⟨c, hc⟩ : ∃ c, t[i]? = some c := ⟨t[i]'hin, List.getElem?_eq_getElem hin⟩
      have hix := idxAt (t := t) (i := i) hc
      have HST := Lib.hid (show 34 :: (t.take (i + 1)).flatMap quoteC = acc ++ quoteC c by rw [q_step t hc, HA.out])
      obtain ⟨cv, hcv⟩ : ∃ cv, (c.toNat : Int) = cv := ⟨_, rfl⟩
      rw [hcv] at hix
      have hc0 : 0 ≤ cv := by omega
      have hc1 : cv < 256 := by have := c.toNat_lt; omega
      have HCV := Lib.hid hcv
      clear hcv hc
      have hbz := HB.out.size
      by_cases h34 : cv = 34
      · subst h34
        have hce : c = 34 := nat_eq (by rw [HCV.out]; rfl)
        subst hce
        obtain ⟨k6, hk6⟩ : ∃ k, (acc).length = k := ⟨_, rfl⟩
        have hkl6 : k6 ≤ 6 * t.length + 6 := by rw [← hk6]; omega
        have HK6 := Lib.hid hk6
        have HR6 := Lib.hid ((HO.out).row hk6)
        have HBA6 := Lib.hid ((HB.out).alloc (HB.out).size (.cells (bc [92]).toArray 5))
        have hsz6 := (HB.out).size
        clear hk6
        go_wp2_with (at_builtin; go_loud (refine wpList_append_own _ rfl _ _ 22 rfl w.heap.size 5 i0 (.int .u8 0) 1 1 Tryz.underlying22 HI.out HZ0.out HZ1.out HZ2.out rfl (by decide) _ _ _ rfl (HR6.out.alloc _) ⟨wr.heap.size, 0, none⟩ 1 1 [.int .u8 92] rfl rfl (jc_newU _ _ _) (fun u hu => by rw [List.mem_singleton.1 hu]; rfl) ?c3 ?c4 ?c5 ?_))
        case c3 => unfold maxLen; omega
        case c4 => omega
        case c5 => first | omega | (simp; omega)
        intro v6 w6 ho6 hg6 _
        have HB6 := Lib.hid (own_gr ((HB.out).alloc (HB.out).size _) (HR6.out.alloc _) (by simp; omega) hg6 : Below w.heap.size w w6)
        have HO6 := Lib.hid (OwnB.of (m := [92]) (by skip; exact ho6) HK6.out rfl : OwnB w6 w.heap.size v6 ((acc) ++ [92]))
        clear ho6 hg6 HBA6 HR6
        have hal6 : (acc ++ [92]).length ≤ 6 * i + 2 := by simp; omega
        obtain ⟨acc6, hacc⟩ : ∃ a, acc ++ [92] = a := ⟨_, rfl⟩
        rw [hacc] at HO6 hal6
        have HACC := Lib.hid hacc
        clear hacc
        obtain ⟨k7, hk7⟩ : ∃ k, (acc6).length = k := ⟨_, rfl⟩
        have hkl7 : k7 ≤ 6 * t.length + 6 := by rw [← hk7]; omega
        have HK7 := Lib.hid hk7
        have HR7 := Lib.hid ((HO6.out).row hk7)
        have HBA7 := Lib.hid ((HB6.out).alloc (HB6.out).size (.cells (bc [34]).toArray 5))
        have hsz7 := (HB6.out).size
        clear hk7
        go_wp2_with (at_builtin; go_loud (refine wpList_append_own _ rfl _ _ 22 rfl w.heap.size 5 i0 (.int .u8 0) 1 1 Tryz.underlying22 HI.out HZ0.out HZ1.out HZ2.out rfl (by decide) _ _ _ rfl (HR7.out.alloc _) ⟨w6.heap.size, 0, none⟩ 1 1 [.int .u8 34] rfl rfl (jc_newU _ _ _) (fun u hu => by rw [List.mem_singleton.1 hu]; rfl) ?c3 ?c4 ?c5 ?_))
        case c3 => unfold maxLen; omega
        case c4 => omega
        case c5 => first | omega | (simp; omega)
        intro v7 w7 ho7 hg7 _
        have HB7 := Lib.hid (own_gr ((HB6.out).alloc (HB6.out).size _) (HR7.out.alloc _) (by simp; omega) hg7 : Below w.heap.size w w7)
        have HO7 := Lib.hid (OwnB.of (m := [34]) (by skip; exact ho7) HK7.out rfl : OwnB w7 w.heap.size v7 ((acc6) ++ [34]))
        clear ho7 hg7 HBA7 HR7
        have HQ := Lib.hid (show 34 :: (t.take (i + 1)).flatMap quoteC = acc6 ++ [34] by
          rw [HST.out, show quoteC 34 = [92, 34] from rfl, ← HACC.out, List.append_assoc]
          rfl)
        go_wp2
        exact ⟨⟨i + 1, _, by omega, by go_num, HQ, by simp; omega, HO7, HB7⟩, by simp [intOf]; omega⟩
      have b34 : (cv == 34) = false := beq_eq_false_iff_ne.2 h34
      by_cases h92 : cv = 92
      · subst h92
        have hce : c = 92 := nat_eq (by rw [HCV.out]; rfl)
        subst hce
        obtain ⟨k6, hk6⟩ : ∃ k, (acc).length = k := ⟨_, rfl⟩
        have hkl6 : k6 ≤ 6 * t.length + 6 := by rw [← hk6]; omega
        have HK6 := Lib.hid hk6
        have HR6 := Lib.hid ((HO.out).row hk6)
        have HBA6 := Lib.hid ((HB.out).alloc (HB.out).size (.cells (bc [92]).toArray 5))
        have hsz6 := (HB.out).size
        clear hk6
        go_wp2_with (at_builtin; go_loud (refine wpList_append_own _ rfl _ _ 22 rfl w.heap.size 5 i0 (.int .u8 0) 1 1 Tryz.underlying22 HI.out HZ0.out HZ1.out HZ2.out rfl (by decide) _ _ _ rfl (HR6.out.alloc _) ⟨wr.heap.size, 0, none⟩ 1 1 [.int .u8 92] rfl rfl (jc_newU _ _ _) (fun u hu => by rw [List.mem_singleton.1 hu]; rfl) ?c3 ?c4 ?c5 ?_))
        case c3 => unfold maxLen; omega
        case c4 => omega
        case c5 => first | omega | (simp; omega)
        intro v6 w6 ho6 hg6 _
        have HB6 := Lib.hid (own_gr ((HB.out).alloc (HB.out).size _) (HR6.out.alloc _) (by simp; omega) hg6 : Below w.heap.size w w6)
        have HO6 := Lib.hid (OwnB.of (m := [92]) (by skip; exact ho6) HK6.out rfl : OwnB w6 w.heap.size v6 ((acc) ++ [92]))
        clear ho6 hg6 HBA6 HR6
        have hal6 : (acc ++ [92]).length ≤ 6 * i + 2 := by simp; omega
        obtain ⟨acc6, hacc⟩ : ∃ a, acc ++ [92] = a := ⟨_, rfl⟩
        rw [hacc] at HO6 hal6
        have HACC := Lib.hid hacc
        clear hacc
        obtain ⟨k7, hk7⟩ : ∃ k, (acc6).length = k := ⟨_, rfl⟩
        have hkl7 : k7 ≤ 6 * t.length + 6 := by rw [← hk7]; omega
        have HK7 := Lib.hid hk7
        have HR7 := Lib.hid ((HO6.out).row hk7)
        have HBA7 := Lib.hid ((HB6.out).alloc (HB6.out).size (.cells (bc [92]).toArray 5))
        have hsz7 := (HB6.out).size
        clear hk7
        go_wp2_with (at_builtin; go_loud (refine wpList_append_own _ rfl _ _ 22 rfl w.heap.size 5 i0 (.int .u8 0) 1 1 Tryz.underlying22 HI.out HZ0.out HZ1.out HZ2.out rfl (by decide) _ _ _ rfl (HR7.out.alloc _) ⟨w6.heap.size, 0, none⟩ 1 1 [.int .u8 92] rfl rfl (jc_newU _ _ _) (fun u hu => by rw [List.mem_singleton.1 hu]; rfl) ?c3 ?c4 ?c5 ?_))
        case c3 => unfold maxLen; omega
        case c4 => omega
        case c5 => first | omega | (simp; omega)
        intro v7 w7 ho7 hg7 _
        have HB7 := Lib.hid (own_gr ((HB6.out).alloc (HB6.out).size _) (HR7.out.alloc _) (by simp; omega) hg7 : Below w.heap.size w w7)
        have HO7 := Lib.hid (OwnB.of (m := [92]) (by skip; exact ho7) HK7.out rfl : OwnB w7 w.heap.size v7 ((acc6) ++ [92]))
        clear ho7 hg7 HBA7 HR7
        have HQ := Lib.hid (show 34 :: (t.take (i + 1)).flatMap quoteC = acc6 ++ [92] by
          rw [HST.out, show quoteC 92 = [92, 92] from rfl, ← HACC.out, List.append_assoc]
          rfl)
        go_wp2
        exact ⟨⟨i + 1, _, by omega, by go_num, HQ, by simp; omega, HO7, HB7⟩, by simp [intOf]; omega⟩
      have b92 : (cv == 92) = false := beq_eq_false_iff_ne.2 h92
      by_cases h10 : cv = 10
      · subst h10
        have hce : c = 10 := nat_eq (by rw [HCV.out]; rfl)
        subst hce
        obtain ⟨k6, hk6⟩ : ∃ k, (acc).length = k := ⟨_, rfl⟩
        have hkl6 : k6 ≤ 6 * t.length + 6 := by rw [← hk6]; omega
        have HK6 := Lib.hid hk6
        have HR6 := Lib.hid ((HO.out).row hk6)
        have hsz6 := (HB.out).size
        have hss6 := sz [92, 110]
        clear hk6
        go_wp2_with (at_builtin; go_loud (refine Lib.wpList_append_own_string _ rfl _ _ 22 9 rfl w.heap.size 5 i0 Tryz.underlying22 Tryz.underlying9 HI.out HZ0.out HZ1.out HZ2.out _ _ _ rfl HR6.out ⟨([92, 110] : Bs).toArray⟩ rfl ?c3 ?c4 ?c5 ?_))
        case c3 => rw [sz]; unfold maxLen; simp; omega
        case c4 => rw [sz]; simp; omega
        case c5 => exact (HB.out).size
        intro v6 w6 ho6 hg6 _
        have HB6 := Lib.hid (own_gr (HB.out) HR6.out (HB.out).size hg6 : Below w.heap.size w w6)
        have HO6 := Lib.hid (OwnB.of (m := [92, 110]) (by first | exact ho6 | (rw [sz] at ho6; exact ho6) | (rw [hhl]; exact ho6)) HK6.out rfl : OwnB w6 w.heap.size v6 ((acc) ++ [92, 110]))
        clear ho6 hg6 HR6 hss6
        have HQ := Lib.hid (show 34 :: (t.take (i + 1)).flatMap quoteC = acc ++ [92, 110] by
          rw [HST.out, show quoteC 10 = [92, 110] from rfl]
          try simp)
        go_wp2
        exact ⟨⟨i + 1, _, by omega, by go_num, HQ, by simp; omega, HO6, HB6⟩, by simp [intOf]; omega⟩
      have b10 : (cv == 10) = false := beq_eq_false_iff_ne.2 h10
      by_cases h13 : cv = 13
      · subst h13
        have hce : c = 13 := nat_eq (by rw [HCV.out]; rfl)
        subst hce
        obtain ⟨k6, hk6⟩ : ∃ k, (acc).length = k := ⟨_, rfl⟩
        have hkl6 : k6 ≤ 6 * t.length + 6 := by rw [← hk6]; omega
        have HK6 := Lib.hid hk6
        have HR6 := Lib.hid ((HO.out).row hk6)
        have hsz6 := (HB.out).size
        have hss6 := sz [92, 114]
        clear hk6
        go_wp2_with (at_builtin; go_loud (refine Lib.wpList_append_own_string _ rfl _ _ 22 9 rfl w.heap.size 5 i0 Tryz.underlying22 Tryz.underlying9 HI.out HZ0.out HZ1.out HZ2.out _ _ _ rfl HR6.out ⟨([92, 114] : Bs).toArray⟩ rfl ?c3 ?c4 ?c5 ?_))
        case c3 => rw [sz]; unfold maxLen; simp; omega
        case c4 => rw [sz]; simp; omega
        case c5 => exact (HB.out).size
        intro v6 w6 ho6 hg6 _
        have HB6 := Lib.hid (own_gr (HB.out) HR6.out (HB.out).size hg6 : Below w.heap.size w w6)
        have HO6 := Lib.hid (OwnB.of (m := [92, 114]) (by first | exact ho6 | (rw [sz] at ho6; exact ho6) | (rw [hhl]; exact ho6)) HK6.out rfl : OwnB w6 w.heap.size v6 ((acc) ++ [92, 114]))
        clear ho6 hg6 HR6 hss6
        have HQ := Lib.hid (show 34 :: (t.take (i + 1)).flatMap quoteC = acc ++ [92, 114] by
          rw [HST.out, show quoteC 13 = [92, 114] from rfl]
          try simp)
        go_wp2
        exact ⟨⟨i + 1, _, by omega, by go_num, HQ, by simp; omega, HO6, HB6⟩, by simp [intOf]; omega⟩
      have b13 : (cv == 13) = false := beq_eq_false_iff_ne.2 h13
      by_cases h9 : cv = 9
      · subst h9
        have hce : c = 9 := nat_eq (by rw [HCV.out]; rfl)
        subst hce
        obtain ⟨k6, hk6⟩ : ∃ k, (acc).length = k := ⟨_, rfl⟩
        have hkl6 : k6 ≤ 6 * t.length + 6 := by rw [← hk6]; omega
        have HK6 := Lib.hid hk6
        have HR6 := Lib.hid ((HO.out).row hk6)
        have hsz6 := (HB.out).size
        have hss6 := sz [92, 116]
        clear hk6
        go_wp2_with (at_builtin; go_loud (refine Lib.wpList_append_own_string _ rfl _ _ 22 9 rfl w.heap.size 5 i0 Tryz.underlying22 Tryz.underlying9 HI.out HZ0.out HZ1.out HZ2.out _ _ _ rfl HR6.out ⟨([92, 116] : Bs).toArray⟩ rfl ?c3 ?c4 ?c5 ?_))
        case c3 => rw [sz]; unfold maxLen; simp; omega
        case c4 => rw [sz]; simp; omega
        case c5 => exact (HB.out).size
        intro v6 w6 ho6 hg6 _
        have HB6 := Lib.hid (own_gr (HB.out) HR6.out (HB.out).size hg6 : Below w.heap.size w w6)
        have HO6 := Lib.hid (OwnB.of (m := [92, 116]) (by first | exact ho6 | (rw [sz] at ho6; exact ho6) | (rw [hhl]; exact ho6)) HK6.out rfl : OwnB w6 w.heap.size v6 ((acc) ++ [92, 116]))
        clear ho6 hg6 HR6 hss6
        have HQ := Lib.hid (show 34 :: (t.take (i + 1)).flatMap quoteC = acc ++ [92, 116] by
          rw [HST.out, show quoteC 9 = [92, 116] from rfl]
          try simp)
        go_wp2
        exact ⟨⟨i + 1, _, by omega, by go_num, HQ, by simp; omega, HO6, HB6⟩, by simp [intOf]; omega⟩
      have b9 : (cv == 9) = false := beq_eq_false_iff_ne.2 h9
      have HQC := Lib.hid (show quoteC c = if c.toNat < 32 then [92, 117, 48, 48, hexC (c.toNat / 16), hexC (c.toNat % 16)] else [c] by
        have hk : ∀ k : UInt8, cv ≠ (k.toNat : Int) → (c == k) = false := fun k hk => by
          rw [beq_eq_false_iff_ne]
          intro e
          subst e
          exact hk HCV.out.symm
        unfold quoteC
        rw [hk 34 h34, hk 92 h92, hk 10 h10, hk 13 h13, hk 9 h9]
        rfl)
      clear h34 h92 h10 h13 h9
      by_cases h32 : cv < 32
      · have HQ2 := Lib.hid (show quoteC c = [92, 117, 48, 48] ++ S01.hexF [c] by
          rw [HQC.out, if_pos (by have := HCV.out; omega), hexF_one]
          rfl)
        obtain ⟨k6, hk6⟩ : ∃ k, (acc).length = k := ⟨_, rfl⟩
        have hkl6 : k6 ≤ 6 * t.length + 6 := by rw [← hk6]; omega
        have HK6 := Lib.hid hk6
        have HR6 := Lib.hid ((HO.out).row hk6)
        have hsz6 := (HB.out).size
        have hss6 := sz [92, 117, 48, 48]
        clear hk6
        go_wp2_with (at_builtin; go_loud (refine Lib.wpList_append_own_string _ rfl _ _ 22 9 rfl w.heap.size 5 i0 Tryz.underlying22 Tryz.underlying9 HI.out HZ0.out HZ1.out HZ2.out _ _ _ rfl HR6.out ⟨([92, 117, 48, 48] : Bs).toArray⟩ rfl ?c3 ?c4 ?c5 ?_))
        case c3 => rw [sz]; unfold maxLen; simp; omega
        case c4 => rw [sz]; simp; omega
        case c5 => exact (HB.out).size
        intro v6 w6 ho6 hg6 _
        have HB6 := Lib.hid (own_gr (HB.out) HR6.out (HB.out).size hg6 : Below w.heap.size w w6)
        have HO6 := Lib.hid (OwnB.of (m := [92, 117, 48, 48]) (by first | exact ho6 | (rw [sz] at ho6; exact ho6) | (rw [hhl]; exact ho6)) HK6.out rfl : OwnB w6 w.heap.size v6 ((acc) ++ [92, 117, 48, 48]))
        clear ho6 hg6 HR6 hss6
        have hal6 : (acc ++ [92, 117, 48, 48]).length ≤ 6 * i + 5 := by simp; omega
        obtain ⟨acc6, hacc⟩ : ∃ a, acc ++ [92, 117, 48, 48] = a := ⟨_, rfl⟩
        rw [hacc] at HO6 hal6
        have HACC := Lib.hid hacc
        clear hacc
        have HBA := Lib.hid (HB6.out.alloc HB6.out.size (.cells #[.int .u8 cv] 5))
        have HOA := Lib.hid (OwnB.below HO6.out ((Below.refl _ w6).alloc (Nat.le_refl _) (.cells #[.int .u8 cv] 5)))
        have HBR := Lib.hid (show Nu.BRead (w6.alloc (.cells #[.int .u8 cv] 5)) (some ⟨w6.heap.size, 0, none⟩) 1 [c] from ⟨rfl, by decide, fun _ => ⟨_, rfl, fun i hi => by
          obtain rfl : i = 0 := by omega
          rw [add_zero, cell_of_row _ _ _ _ _ (0, 0) (heap_alloc_new w6 _)]
          show some (Value.int .u8 cv) = some (.int .u8 (S01.by' [c] 0))
          rw [← HCV.out]
          rfl⟩⟩)
        have HHX := Lib.hid (Nu.refHex_calls _ 1 1 [c] _ HBR.out (by decide))
        obtain ⟨hx, hhx⟩ : ∃ hx, S01.hexF [c] = hx := ⟨_, rfl⟩
        have hhl : hx.length = 2 := by rw [← hhx, hexF_one]; rfl
        rw [hhx] at HHX HQ2
        clear hhx HO6 HBR
        go_wp2_with fail
        refine HHX.out.mono ?_
        rintro e w7 ⟨rfl, hb⟩
        have HB7 := Lib.hid (keepB HBA.out hb)
        have HO7 := Lib.hid (OwnB.below HOA.out hb)
        clear hb HHX HOA
        obtain ⟨k8, hk8⟩ : ∃ k, (acc6).length = k := ⟨_, rfl⟩
        have hkl8 : k8 ≤ 6 * t.length + 6 := by rw [← hk8]; omega
        have HK8 := Lib.hid hk8
        have HR8 := Lib.hid ((HO7.out).row hk8)
        have hsz8 := (HB7.out).size
        have hss8 := sz hx
        clear hk8
        go_wp2_with (at_builtin; go_loud (refine Lib.wpList_append_own_string _ rfl _ _ 22 9 rfl w.heap.size 5 i0 Tryz.underlying22 Tryz.underlying9 HI.out HZ0.out HZ1.out HZ2.out _ _ _ rfl HR8.out ⟨(hx : Bs).toArray⟩ rfl ?c3 ?c4 ?c5 ?_))
        case c3 => rw [sz]; unfold maxLen; simp only [hhl]; omega
        case c4 => rw [sz]; simp only [hhl]; omega
        case c5 => exact (HB7.out).size
        intro v8 w8 ho8 hg8 _
        have HB8 := Lib.hid (own_gr (HB7.out) HR8.out (HB7.out).size hg8 : Below w.heap.size w w8)
        have HO8 := Lib.hid (OwnB.of (m := hx) (by first | exact ho8 | (rw [sz] at ho8; exact ho8) | (rw [hhl]; exact ho8)) HK8.out rfl : OwnB w8 w.heap.size v8 ((acc6) ++ hx))
        clear ho8 hg8 HR8 hss8
        have HQ := Lib.hid (show 34 :: (t.take (i + 1)).flatMap quoteC = acc6 ++ hx by
          rw [HST.out, HQ2.out, ← HACC.out, List.append_assoc])
        go_wp2
        exact ⟨⟨i + 1, _, by omega, by go_num, HQ, by rw [List.length_append]; omega, HO8, HB8⟩, by simp [intOf]; omega⟩
      · have HQ2 := Lib.hid (show quoteC c = [c] by rw [HQC.out, if_neg (by have := HCV.out; omega)])
        obtain ⟨k6, hk6⟩ : ∃ k, (acc).length = k := ⟨_, rfl⟩
        have hkl6 : k6 ≤ 6 * t.length + 6 := by rw [← hk6]; omega
        have HK6 := Lib.hid hk6
        have HR6 := Lib.hid ((HO.out).row hk6)
        have HBA6 := Lib.hid ((HB.out).alloc (HB.out).size (.cells (bc [c]).toArray 5))
        have hsz6 := (HB.out).size
        clear hk6
        go_wp2_with (at_builtin; go_loud (refine wpList_append_own _ rfl _ _ 22 rfl w.heap.size 5 i0 (.int .u8 0) 1 1 Tryz.underlying22 HI.out HZ0.out HZ1.out HZ2.out rfl (by decide) _ _ _ rfl (HR6.out.alloc _) ⟨wr.heap.size, 0, none⟩ 1 1 [.int .u8 cv] rfl rfl (jc_newU _ _ _) (fun u hu => by rw [List.mem_singleton.1 hu]; rfl) ?c3 ?c4 ?c5 ?_))
        case c3 => unfold maxLen; omega
        case c4 => omega
        case c5 => first | omega | (simp; omega)
        intro v6 w6 ho6 hg6 _
        have HB6 := Lib.hid (own_gr ((HB.out).alloc (HB.out).size _) (HR6.out.alloc _) (by simp; omega) hg6 : Below w.heap.size w w6)
        have HO6 := Lib.hid (OwnB.of (m := [c]) (by rw [show bc [c] = [Value.int .u8 cv] by rw [← HCV.out]; rfl]; exact ho6) HK6.out rfl : OwnB w6 w.heap.size v6 ((acc) ++ [c]))
        clear ho6 hg6 HBA6 HR6
        have HQ := Lib.hid (show 34 :: (t.take (i + 1)).flatMap quoteC = acc ++ [c] by
          rw [HST.out, HQ2.out])
        go_wp2
        exact ⟨⟨i + 1, _, by omega, by go_num, HQ, by simp; omega, HO6, HB6⟩, by simp [intOf]; omega⟩
    · have hie : i = t.length := by omega
      have hie' : ¬ (i : Int) < (t.length : Int) := by omega
      have HFIN := Lib.hid (show quoteT t = acc ++ [34] by
        rw [← HA.out, hie, List.take_length]
        unfold quoteT
        simp)
      clear hin
      obtain ⟨k6, hk6⟩ : ∃ k, (acc).length = k := ⟨_, rfl⟩
      have hkl6 : k6 ≤ 6 * t.length + 6 := by rw [← hk6]; omega
      have HK6 := Lib.hid hk6
      have HR6 := Lib.hid ((HO.out).row hk6)
      have HBA6 := Lib.hid ((HB.out).alloc (HB.out).size (.cells (bc [34]).toArray 5))
      have hsz6 := (HB.out).size
      clear hk6
      go_wp2_with (at_builtin; go_loud (refine wpList_append_own _ rfl _ _ 22 rfl w.heap.size 5 i0 (.int .u8 0) 1 1 Tryz.underlying22 HI.out HZ0.out HZ1.out HZ2.out rfl (by decide) _ _ _ rfl (HR6.out.alloc _) ⟨wr.heap.size, 0, none⟩ 1 1 [.int .u8 34] rfl rfl (jc_newU _ _ _) (fun u hu => by rw [List.mem_singleton.1 hu]; rfl) ?c3 ?c4 ?c5 ?_))
      case c3 => unfold maxLen; omega
      case c4 => omega
      case c5 => first | omega | (simp; omega)
      intro v6 w6 ho6 hg6 _
      have HB6 := Lib.hid (own_gr ((HB.out).alloc (HB.out).size _) (HR6.out.alloc _) (by simp; omega) hg6 : Below w.heap.size w w6)
      have HO6 := Lib.hid (OwnB.of (m := [34]) (by skip; exact ho6) HK6.out rfl : OwnB w6 w.heap.size v6 ((acc) ++ [34]))
      clear ho6 hg6 HBA6 HR6
      have hcv := HO6.out.conv
      go_wp2
      go_ret
      exact ⟨by rw [HFIN.out] <;> rfl, HB6.out⟩
end Go.Proofs.YtminegmjklehnaaGreatDoor.J

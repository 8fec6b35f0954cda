/-
  SHA-256: the code under a key; two codes compared (the program's).
-/
import Derived.Test.YthgjhfcafdepcaaGreatDoorShaG
namespace Go.Proofs.YthgjhfcafdepcaaGreatDoor.Sh
open Go.RowKit Go.Proofs.YthgjhfcafdepcaaGreatDoor.B
open Go.Proofs.YthgjhfcafdepcaaGreatDoor.M hiding Bs
open Go.Proofs.YthgjhfcafdepcaaGreatDoor.C (QRow Turn)
set_option linter.unusedVariables false
set_option linter.unusedSimpArgs false

theorem below_turn {w a b : World} {sb : Nat} (h : Below w.heap.size w a) (hT : Turn (fun k => k = sb) a b) (hs : w.heap.size ≤ sb) : Below w.heap.size w b := h.trans (hT.below h.size (fun k hk e => by omega))
theorem below_more {w a b : World} (h : Below w.heap.size w a) (hb : Below a.heap.size a b) : Below w.heap.size w b := keepB' h hb h.size
set_option maxRecDepth 100000 in
set_option maxHeartbeats 4000000 in
theorem Mac_calls {w : World} {F F2 : Nat → Prop} {A A2 : Option Addr} {n c n2 c2 : Nat} {l m : Bs} (hn : l.length = n) (hnc : n ≤ c) (hL : n ≤ 1152921504606840000) (hp : RdB w F A l)
    (hn2 : m.length = n2) (hnc2 : n2 ≤ c2) (hL2 : n2 ≤ 1152921504606840000) (hp2 : RdB w F2 A2 m) :
    Calls Tryz.prog 27 #[.slice A n c, .slice A2 n2 c2] w fun e w' => ∃ v, e = .returned v ∧ Nu.BOwn w' w.heap.size v (macF l m) ∧ Below w.heap.size w w' := by
  have HP := Lib.hid hp.lt
  have HP2 := Lib.hid hp2.lt
  have HN := Lib.hid hn
  have HN2 := Lib.hid hn2
  clear hp hp2 hn hn2
  go_enter Tryz.func27, Tryz.ntmps27
  go_wp2_with fail
  refine (New_calls _).mono ?_
  rintro e w1 ⟨sb1, rfl, hst1, hs1, hb1⟩
  go_wp2_with fail
  refine (New_calls _).mono ?_
  rintro e w2 ⟨sb2, rfl, hst2, hs2, hb2⟩
  have hlt1 := lt_of_heap hst1.1
  have HS1 := Lib.hid ((StW.new hst1).below hb2)
  have HS2 := Lib.hid (StW.new hst2)
  have HB2 := Lib.hid (below_more hb1 hb2)
  have hlt2 := lt_of_heap hst2.1
  have hsz1 := hb1.size
  clear hst1 hst2 hb1 hb2
  go_wp2_with fail
  refine (pad_calls 54 HN.out hnc (by omega) (HP.out.keep (F' := fun b => b < w.heap.size) fun a v ha hv => ⟨ha, (HB2.out.cell ha).trans hv⟩)).mono ?_
  rintro e w3 ⟨A3, rfl, hr3, hb3⟩
  have HR3 := Lib.hid (hr3.mono (F' := fun b => b ≠ sb1) (fun b hb _ => by omega))
  have HS13 := Lib.hid (HS1.out.below hb3)
  have HS23 := Lib.hid (HS2.out.below hb3)
  have HB3 := Lib.hid (below_more HB2.out hb3)
  clear hr3 hb3 HS1 HS2
  go_wp2_with fail
  refine (Write_calls HS13.out (padK_len l 54) (Nat.le_refl _) (by simp) HR3.out).mono ?_
  rintro e w4 ⟨rfl, hst4, hT4⟩
  rw [List.nil_append] at hst4
  have HS14 := Lib.hid hst4
  have HS24 := Lib.hid (HS23.out.turn hT4 (by omega))
  have HB4 := Lib.hid (below_turn HB3.out hT4 hs1)
  clear hst4 hT4 HS13 HS23 HR3
  go_wp2_with fail
  refine (Write_calls HS14.out HN2.out hnc2 (by rw [padK_len]; omega) (HP2.out.keep (F' := fun b => b ≠ sb1) fun a v ha hv => ⟨by omega, (HB4.out.cell ha).trans hv⟩)).mono ?_
  rintro e w5 ⟨rfl, hst5, hT5⟩
  have HS15 := Lib.hid hst5
  have HS25 := Lib.hid (HS24.out.turn hT5 (by omega))
  have HB5 := Lib.hid (below_turn HB4.out hT5 hs1)
  clear hst5 hT5 HS14 HS24
  go_wp2_with fail
  refine (pad_calls 92 HN.out hnc (by omega) (HP.out.keep (F' := fun b => b < w.heap.size) fun a v ha hv => ⟨ha, (HB5.out.cell ha).trans hv⟩)).mono ?_
  rintro e w6 ⟨A6, rfl, hr6, hb6⟩
  have hl25 := HS25.out.lt
  have HR6 := Lib.hid (hr6.mono (F' := fun b => b ≠ sb2) (fun b hb _ => by omega))
  have HS16 := Lib.hid (HS15.out.below hb6)
  have HS26 := Lib.hid (HS25.out.below hb6)
  have HB6 := Lib.hid (below_more HB5.out hb6)
  clear hr6 hb6 HS15 HS25
  go_wp2_with fail
  refine (Write_calls HS26.out (padK_len l 92) (Nat.le_refl _) (by simp) HR6.out).mono ?_
  rintro e w7 ⟨rfl, hst7, hT7⟩
  rw [List.nil_append] at hst7
  have HS27 := Lib.hid hst7
  have HS17 := Lib.hid (HS16.out.turn hT7 (by omega))
  have HB7 := Lib.hid (below_turn HB6.out hT7 (by omega))
  clear hst7 hT7 HS16 HS26 HR6
  go_wp2_with fail
  refine (Sum_calls HS17.out (by rw [List.length_append, padK_len, HN2.out]; omega)).mono ?_
  rintro e w8 ⟨v8, rfl, hown8, hb8⟩
  have hl27 := HS27.out.lt
  obtain ⟨A8, c8, rfl, hc8, hr8⟩ := BOwn.rd (F := fun b => b ≠ sb2) hown8 (fun b hb => by omega)
  have HR8 := Lib.hid hr8
  have HS28 := Lib.hid (HS27.out.below hb8)
  have HB8 := Lib.hid (below_more HB7.out hb8)
  clear hr8 hb8 hown8 HS27 HS17
  go_wp2_with fail
  refine (Write_calls HS28.out rfl hc8 (by rw [padK_len, shaF_len]; omega) HR8.out).mono ?_
  rintro e w9 ⟨rfl, hst9, hT9⟩
  have HS29 := Lib.hid hst9
  have HB9 := Lib.hid (below_turn HB8.out hT9 (by omega))
  clear hst9 hT9 HS28 HR8
  go_wp2_with fail
  refine (Sum_calls HS29.out (by rw [List.length_append, padK_len, shaF_len]; omega)).mono ?_
  rintro e w10 ⟨v, rfl, hown, hb10⟩
  have HO := Lib.hid hown
  have HB10 := Lib.hid (below_more HB9.out hb10)
  clear hown hb10
  go_wp2
  go_ret
  exact ⟨v, rfl, BOwn.base HO.out HB9.out.size, HB10.out⟩
/-- what of two codes differs, so far. -/
def dif (l m : Bs) : Nat → UInt8
  | 0 => 0
  | i + 1 => dif l m i ||| (l.getD i 0 ^^^ m.getD i 0)
theorem or_zero8 (a b : UInt8) : a ||| b = 0 ↔ a = 0 ∧ b = 0 := UInt8.or_eq_zero_iff
theorem xor_zero8 (a b : UInt8) : a ^^^ b = 0 ↔ a = b := UInt8.xor_eq_zero_iff
theorem dif_zero (l m : Bs) : ∀ k, dif l m k = 0 ↔ ∀ i, i < k → l.getD i 0 = m.getD i 0
  | 0 => ⟨fun _ i h => by omega, fun _ => rfl⟩
  | k + 1 => by
    rw [dif, or_zero8, dif_zero l m k, xor_zero8]
    constructor
    · rintro ⟨h1, h2⟩ i hi
      by_cases e : i = k
      · subst e; exact h2
      · exact h1 i (by omega)
    · intro h
      exact ⟨fun i hi => h i (by omega), h k (by omega)⟩
theorem dif_eq {l m : Bs} (h : l.length = m.length) : dif l m l.length = 0 ↔ l = m := by
  rw [dif_zero]
  constructor
  · intro hh
    apply List.ext_getElem h
    intro i h1 h2
    have := hh i h1
    rw [List.getD_eq_getElem?_getD, List.getD_eq_getElem?_getD, List.getElem?_eq_getElem h1, List.getElem?_eq_getElem h2] at this
    exact this
  · rintro rfl i _
    rfl
theorem Looks_calls (w : World) (A A2 : Option Addr) (n c n2 c2 : Nat) : Calls Tryz.prog 79 #[.slice A n c, .slice A2 n2 c2] w fun e w' => e = .returned (.int .i64 ((if n = n2 then n else 0 : Nat) : Int)) ∧ w' = w := by
  by_cases h : n = n2
  · subst h
    rw [if_pos rfl]
    go_enter Tryz.func79, Tryz.ntmps79
    go_wp2
    go_ret
    exact ⟨rfl, rfl⟩
  · rw [if_neg h]
    have h' : ((n : Int) != (n2 : Int)) = true := by rw [bne_iff_ne]; omega
    go_enter Tryz.func79, Tryz.ntmps79
    go_wp2
    go_ret
    exact ⟨rfl, rfl⟩
theorem RdB.get {w : World} {F : Nat → Prop} {ad : Addr} {q : Bs} (h : RdB w F (some ad) q) {i : Nat} (hi : i < q.length) : w.cell? (ad.add i) = some (.int .u8 ((q.getD i 0).toNat : Int)) := by
  obtain ⟨a, h1, _, h3⟩ := h i _ (List.getElem?_eq_getElem hi)
  cases h1
  rw [h3, List.getD_eq_getElem?_getD, List.getElem?_eq_getElem hi]
  rfl
set_option maxRecDepth 100000 in
set_option maxHeartbeats 4000000 in
theorem Equal_calls {w : World} {F F2 : Nat → Prop} {A A2 : Option Addr} {n c n2 c2 : Nat} {l m : Bs} (hn : l.length = n) (hmax : n ≤ 9223372036854775807) (hp : RdB w F A l) (hn2 : m.length = n2) (hp2 : RdB w F2 A2 m) :
    Calls Tryz.prog 62 #[.slice A n c, .slice A2 n2 c2] w fun e w' => e = .returned (.bool (l == m)) ∧ w'.heap = w.heap ∧ Below w.heap.size w w' := by
  by_cases h : n = n2
  · subst h
    have HE := Lib.hid (dif_eq (l := l) (m := m) (by omega))
    have HP := Lib.hid hp
    have HP2 := Lib.hid hp2
    have HN := Lib.hid hn
    have HN2 := Lib.hid hn2
    clear hp hp2 hn hn2
    go_enter Tryz.func62, Tryz.ntmps62
    go_wp2_with fail
    refine (Looks_calls _ _ _ _ _ _ _).mono ?_
    rintro e w1 ⟨rfl, rfl⟩
    rw [if_pos rfl]
    go_wp2_with fail
    go_loopw [5, 6, 10] (fun v5 v6 v10 wr => ∃ i : Nat, i ≤ n ∧ v10 = .int .i64 i ∧ v5 = .int .u8 ((dif l m i).toNat : Int) ∧ ∃ k, wr = World.drewN w1 k) (fun _ _ v10 _ => n - (intOf v10).toNat)
    case atStart => exact ⟨0, by omega, rfl, rfl, 0, rfl⟩
    case round =>
      obtain ⟨i, hi, rfl, rfl, k, rfl⟩ := hrel
      by_cases hlt : i < n
      · have hlt' : (i : Int) < (n : Int) := by omega
        have hi0 : (0 : Int) ≤ (i : Int) := by omega
        obtain ⟨ad, rfl⟩ := HP.out.at_ (by rw [HN.out]; omega)
        obtain ⟨ad2, rfl⟩ := HP2.out.at_ (by rw [HN2.out]; omega)
        have hc : w1.cell? (ad.add i) = _ := HP.out.get (by rw [HN.out]; exact hlt)
        have hc2 : w1.cell? (ad2.add i) = _ := HP2.out.get (by rw [HN2.out]; exact hlt)
        have HD := Lib.hid (show dif l m (i + 1) = dif l m i ||| (l.getD i 0 ^^^ m.getD i 0) from rfl)
        obtain ⟨x, hx⟩ : ∃ x, l.getD i 0 = x := ⟨_, rfl⟩
        obtain ⟨y, hy⟩ : ∃ y, m.getD i 0 = y := ⟨_, rfl⟩
        obtain ⟨d, hd⟩ : ∃ d, dif l m i = d := ⟨_, rfl⟩
        rw [hx] at hc HD
        rw [hy] at hc2 HD
        rw [hd] at HD ⊢
        have hxy := xor_b x y
        obtain ⟨z, hz⟩ : ∃ z, x ^^^ y = z := ⟨_, rfl⟩
        rw [hz] at hxy HD
        have hor := or_b d z
        obtain ⟨r, hr⟩ : ∃ r, d ||| z = r := ⟨_, rfl⟩
        rw [hr] at hor HD
        clear hx hy hd hz hr
        go_wp2_with fail
        go_quiet (fail)
        go_wp2
        exact ⟨⟨i + 1, by omega, by go_num, by rw [HD.out], _, rfl⟩, by simp [intOf]; omega⟩
      · have hin : i = n := by omega
        subst hin
        have HE2 := Lib.hid (show dif l m i = 0 ↔ l = m by rw [← HN.out]; exact HE.out)
        obtain ⟨d, hd⟩ : ∃ d, dif l m i = d := ⟨_, rfl⟩
        rw [hd] at HE2 ⊢
        clear hd HE
        obtain ⟨b, hb⟩ : ∃ b, (l == m) = b := ⟨_, rfl⟩
        have HBB := Lib.hid hb
        have hz : (((d.toNat : Nat) : Int) == 0) = b := by
          rw [← hb]
          by_cases hlm : l = m
          · rw [HE2.out.2 hlm, beq_iff_eq.2 hlm]; rfl
          · rw [beq_eq_false_iff_ne.2 hlm, beq_eq_false_iff_ne]
            intro hh
            exact hlm (HE2.out.1 (UInt8.toNat_inj.1 (by simpa using hh)))
        clear hb
        cases b
        all_goals
          go_wp2
          go_ret
          exact ⟨by first | (rw [HBB.out]; rfl) | simp [HBB.out], rfl, ⟨rfl, rfl, rfl, Nat.le_refl _, fun _ _ => rfl⟩⟩
  · have HL := Lib.hid (show (l == m) = false by
      rw [beq_eq_false_iff_ne]
      rintro rfl
      omega)
    have h' : ((n : Int) == (n2 : Int)) = false := by rw [beq_eq_false_iff_ne]; omega
    clear hn hn2 hp hp2
    go_enter Tryz.func62, Tryz.ntmps62
    go_wp2_with fail
    refine (Looks_calls _ _ _ _ _ _ _).mono ?_
    rintro e w1 ⟨rfl, rfl⟩
    rw [if_neg h]
    go_wp2_with fail
    go_loopw [5, 6, 10] (fun v5 v6 v10 wr => v10 = .int .i64 0 ∧ v5 = .int .u8 0 ∧ wr = w1) (fun _ _ v10 _ => 0)
    case atStart => exact ⟨rfl, rfl, rfl⟩
    case round =>
      obtain ⟨rfl, rfl, rfl⟩ := hrel
      go_wp2
      go_ret
      exact ⟨by first | (rw [HL.out]; rfl) | simp [HL.out], rfl, Below.refl _ _⟩
set_option maxRecDepth 100000 in
set_option maxHeartbeats 4000000 in
theorem Check_calls {w : World} {F F2 F3 : Nat → Prop} {A A2 A3 : Option Addr} {n c n2 c2 n3 c3 : Nat} {l m k : Bs} (hn : l.length = n) (hnc : n ≤ c) (hL : n ≤ 1152921504606840000) (hp : RdB w F A l)
    (hn2 : m.length = n2) (hnc2 : n2 ≤ c2) (hL2 : n2 ≤ 1152921504606840000) (hp2 : RdB w F2 A2 m) (hn3 : k.length = n3) (hp3 : RdB w F3 A3 k) :
    Calls Tryz.prog 39 #[.slice A n c, .slice A2 n2 c2, .slice A3 n3 c3] w fun e w' => e = .returned (.bool (macF l m == k)) ∧ Below w.heap.size w w' := by
  have HP := Lib.hid hp
  have HP2 := Lib.hid hp2
  have HP3 := Lib.hid hp3.lt
  have HN := Lib.hid hn
  have HN2 := Lib.hid hn2
  have HN3 := Lib.hid hn3
  clear hp hp2 hp3 hn hn2 hn3
  go_enter Tryz.func39, Tryz.ntmps39
  go_wp2_with fail
  refine (Mac_calls HN.out hnc hL HP.out HN2.out hnc2 hL2 HP2.out).mono ?_
  rintro e w1 ⟨v, rfl, hown, hb⟩
  obtain ⟨A8, c8, rfl, hc8, hr8⟩ := BOwn.rd (F := fun _ => True) hown (fun b hb => trivial)
  have HR8 := Lib.hid hr8
  have HB := Lib.hid hb
  have HR3 := Lib.hid (HP3.out.below hb (F' := fun _ => True) (fun _ _ _ => trivial))
  clear hr8 hb hown
  go_wp2_with fail
  refine (Equal_calls rfl (by rw [macF_len]; omega) HR8.out HN3.out HR3.out).mono ?_
  rintro e w2 ⟨rfl, hh, hb2⟩
  have HB2 := Lib.hid (below_more HB.out hb2)
  clear hb2 hh
  obtain ⟨b, hb⟩ : ∃ b, (macF l m == k) = b := ⟨_, rfl⟩
  rw [hb]
  have HBK := Lib.hid hb
  clear hb
  go_wp2
  go_ret
  exact ⟨by rw [HBK.out]; rfl, HB2.out⟩
end Go.Proofs.YthgjhfcafdepcaaGreatDoor.Sh

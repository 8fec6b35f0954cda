/-
  Contracts of package num and of its reference: bytes cloned; a number put behind bytes.
-/
import Derived.Test.YteaapekkoahilaaDoorNumE
import Derived.Lib.SliceRun
namespace Go.Proofs.YteaapekkoahilaaDoor.Nu
open Go.RowKit Go.Proofs.YteaapekkoahilaaDoor.B Go.Proofs.YteaapekkoahilaaDoor.S01
set_option linter.unusedVariables false
set_option linter.unusedSimpArgs false

def OwnPost (w : World) (l : List UInt8) (e : Ending) (w' : World) : Prop := ∃ v, e = .returned v ∧ BOwn w' w.heap.size v l ∧ Below w.heap.size w w'
theorem news_of {w : World} {ad : Addr} {n : Nat} {l : List UInt8} (hl : l.length = n) (hc : ∀ i, i < n → w.cell? (ad.add i) = some (.int .u8 (by' l i))) : ∀ (j : Nat) (u : Value), (l.map vb)[j]? = some u → w.cell? (ad.add j) = some u := by
  intro j u hu
  rw [List.getElem?_map] at hu
  have hj : j < l.length := by
    rcases Nat.lt_or_ge j l.length with h | h
    · exact h
    · rw [List.getElem?_eq_none h] at hu; simp at hu
  rw [List.getElem?_eq_getElem hj] at hu
  simp at hu
  subst hu
  rw [hc j (by omega)]
  simp [by', vb, List.getD_eq_getElem?_getD, hj]
theorem vb_one {l : List UInt8} : ∀ u ∈ l.map vb, Value.oneCell' u = true := by
  intro u hu
  obtain ⟨x, _, rfl⟩ := List.mem_map.1 hu
  rfl
set_option maxRecDepth 100000 in
set_option maxHeartbeats 4000000 in
theorem Clone_calls (A : Option Addr) (n c : Nat) (l : List UInt8) (w : World) (hr : BRead w A n l) (hn : n ≤ 140737488351232) (hA : A = none → n = 0) :
    Calls Tryd.prog 32 #[.slice A n c] w (OwnPost w l) := by
  cases A with
  | none =>
    obtain rfl := hA rfl
    have hl : l = [] := List.eq_nil_of_length_eq_zero hr.1
    subst hl
    have hnil := Lib.run_eql_slice_nil (P := Tryd.prog) w 22 5 none 0 c 0 0 Tryd.underlying22
    clear hr
    go_enter Tryd.func32, Tryd.ntmps32
    go_wp2
    go_ret
    exact ⟨_, rfl, BOwn.nil _ _, Below.refl _ _⟩
  | some ad =>
    have hnil := Lib.run_eql_slice_nil (P := Tryd.prog) w 22 5 (some ad) n c 0 0 Tryd.underlying22
    obtain ⟨i0, hi, hz0, hz1, hz2⟩ := info_parts info_u8
    have HI := Lib.hid hi; clear hi
    have HZ0 := Lib.hid hz0; clear hz0
    have HZ1 := Lib.hid hz1; clear hz1
    have HZ2 := Lib.hid hz2; clear hz2
    have HR := Lib.hid hr; clear hr
    have HC : Hid (∀ i, i < n → w.cell? (ad.add i) = some (.int .u8 (by' l i))) := Lib.hid (fun i hi => by
      obtain ⟨ad', e, hc⟩ := HR.out.at_ i hi
      cases e; exact hc)
    have hown := Lib.hid (World.ownsRow_lit (base := w.heap.size) (e := 5) (size := 1) w #[] 0 (Nat.le_refl _) (by unfold maxLen; omega) rfl)
    go_enter Tryd.func32, Tryd.ntmps32
    go_wp2_with (at_builtin; refine wpList_append_own _ rfl _ _ 22 rfl w.heap.size 5 i0 (.int .u8 0) 1 1 Tryd.underlying22 HI.out HZ0.out HZ1.out HZ2.out rfl (by decide) _ _ _ rfl hown.out ad n c (l.map vb) rfl ?c0 ?c1 ?c2 ?c3 ?c4 ?c5 ?_)
    case c0 => simp [HR.out.1]
    case c1 => exact fun j a ha => news_of HR.out.1 (fun i hi => cellAlloc (HC.out i hi) _) j (vb a) (by simp [ha])
    case c2 => exact fun a _ => rfl
    case c3 => unfold maxLen; omega
    case c4 => omega
    intro v' w1 hown1 hgrow1 _
    have hb1 : Below w.heap.size w w1 := (((Below.refl _ _).alloc (Nat.le_refl _) _).grown hgrow1 (by simp) (fun b hb => own_base' hown.out b hb))
    have hown2 := Lib.hid (show BOwn w1 w.heap.size v' l by unfold BOwn; rw [HR.out.1]; simpa using hown1)
    clear hown1 hgrow1
    go_wp2
    go_ret
    exact ⟨_, rfl, hown2.out, hb1⟩

/-- A number in groups behind bytes: k groups are out, m is left. -/
theorem small_toB (m : Int) (h0 : 0 ≤ m) (h1 : m ≤ 127) : m % 256 = ((toB m).toNat : Int) := by rw [toB_nat h0 (by omega)]; omega
theorem or128 (m : Int) (h0 : 0 ≤ m) : bits .or .u8 (m % 256) 128 = ((toB (m % 128 + 128)).toNat : Int) := by
  rw [toB_nat (by omega) (by omega)]
  have e : m % 128 = (m % 256) % 128 := by omega
  rw [e]
  have q0 : 0 ≤ m % 256 := by omega
  have q1 : m % 256 < 256 := by omega
  generalize m % 256 = x at *
  obtain ⟨a, rfl⟩ := Int.eq_ofNat_of_zero_le q0
  have h : ∀ p : Fin 256, bits .or .u8 (p.val : Int) 128 = (p.val : Int) % 128 + 128 := by decide +kernel
  exact h ⟨a, by omega⟩
set_option maxRecDepth 100000 in
set_option maxHeartbeats 4000000 in
theorem Put_calls (A : Option Addr) (n c : Nat) (l : List UInt8) (x : Int) (w : World) (hr : BRead w A n l) (hn : n ≤ 140737488351232) (hA : A = none → n = 0) (x0 : -9223372036854775808 ≤ x) (x1 : x ≤ 9223372036854775807) :
    Calls Tryd.prog 18 #[.slice A n c, .int .i64 x] w (OwnPost w (putF l x)) := by
  obtain ⟨i0, hi, hz0, hz1, hz2⟩ := info_parts info_u8
  have HI := Lib.hid hi; clear hi
  have HZ0 := Lib.hid hz0; clear hz0
  have HZ1 := Lib.hid hz1; clear hz1
  have HZ2 := Lib.hid hz2; clear hz2
  have HL := Lib.hid hr.1
  by_cases hneg : x < 0
  · have hp := Lib.hid (putF_neg l hneg)
    go_enter Tryd.func18, Tryd.ntmps18
    go_wp2_with fail
    refine (Clone_calls A n c l _ hr hn hA).mono ?_
    rintro e w1 ⟨v, rfl, hown, hb⟩
    go_wp2
    go_ret
    exact ⟨_, rfl, by rw [hp.out]; exact hown, hb⟩
  · have hx0 : 0 ≤ x := by omega
    go_enter Tryd.func18, Tryd.ntmps18
    go_wp2_with fail
    refine (Clone_calls A n c l _ hr hn hA).mono ?_
    rintro e w1 ⟨v, rfl, hown, hb⟩
    go_wp2
    go_loopw [1, 5] (fun v1 v5 wr => ∃ k : Nat, ∃ m : Int, v1 = .int .i64 m ∧ 0 ≤ m ∧ m ≤ 9223372036854775807 ∧ k ≤ 10 ∧ BOwn wr w.heap.size v5 (l ++ grp x k) ∧ Below w.heap.size w wr ∧ Asd (m = x / (128 ^ k : Nat) ∧ ∀ j, j < k → 128 ≤ x / (128 ^ j : Nat))) (fun v1 _ _ => (intOf v1).toNat)
    case atStart => exact ⟨0, x, rfl, hx0, by omega, by omega, by simpa [grp] using hown, hb, ⟨by simp, fun j hj => by omega⟩⟩
    case round =>
      obtain ⟨k, m, rfl, m0, m1, hk, hown, hbel, hm⟩ := hrel
      have hbz := hbel.size
      have hlen : (l ++ grp x k).length = n + k := by rw [List.length_append, grp_len, HL.out]
      obtain ⟨q, hq⟩ : ∃ q, l ++ grp x k = q := ⟨_, rfl⟩
      rw [hq] at hlen hown
      have HQ := Lib.hid hq; clear hq
      have HO := Lib.hid (BOwn.row hown hlen); clear hown
      have HLn := Lib.hid hlen; clear hlen
      by_cases hge : 128 ≤ m
      · have hk8 : k ≤ 8 := k_bound hx0 x1 (by rw [← hm.out.1]; exact hge)
        have hv := Lib.hid (or128 m m0)
        go_wp2_with (at_builtin; refine wpList_append_own _ rfl _ _ 22 rfl w.heap.size 5 i0 (.int .u8 0) 1 1 Tryd.underlying22 HI.out HZ0.out HZ1.out HZ2.out rfl (by decide) _ _ _ rfl (HO.out.alloc _) ⟨wr.heap.size, 0, none⟩ 1 1 [.int .u8 (bits .or .u8 (m % 256) 128)] rfl rfl ?c1 ?c2 ?c3 ?c4 ?c5 ?_)
        case c1 => exact cell_one_new _ _ _
        case c2 => intro u hu; simp at hu; subst hu; rfl
        case c3 => unfold maxLen; omega
        case c4 => omega
        case c5 => simp; omega
        intro v' w1 hown1 hgrow1 _
        have hown2 := Lib.hid (BOwn.snoc hown1 HLn.out hv.out)
        have hb1 : Below w.heap.size w w1 := ((hbel.alloc hbel.size _).grown hgrow1 (by simp; omega) (fun b hb => own_base' HO.out b hb))
        clear hown1 hgrow1
        go_wp2
        exact ⟨⟨k + 1, _, rfl, by omega, by omega, by omega, by rw [grp_succ, ← hm.out.1, ← List.append_assoc, HQ.out]; exact hown2.out, hb1, ⟨by rw [← div_next hx0 k, ← hm.out.1], fun j hj => (by
          by_cases e : j = k
          · subst e; rw [← hm.out.1]; exact hge
          · exact hm.out.2 j (by omega))⟩⟩, by simp [intOf]; omega⟩
      · have hk9 : k < 10 := by
          rcases Nat.eq_zero_or_pos k with h | h
          · omega
          · have := k_bound hx0 x1 (hm.out.2 (k - 1) (by omega)); omega
        have hp := Lib.hid (putF_at l hx0 hk9 hm.out.2 (by rw [← hm.out.1]; exact hge))
        have hv := Lib.hid (show m = ((toB m).toNat : Int) from (toB_nat m0 (by omega)).symm)
        have hlt : m < 128 := by omega
        clear hge
        go_wp2_with (at_builtin; refine wpList_append_own _ rfl _ _ 22 rfl w.heap.size 5 i0 (.int .u8 0) 1 1 Tryd.underlying22 HI.out HZ0.out HZ1.out HZ2.out rfl (by decide) _ _ _ rfl (HO.out.alloc _) ⟨wr.heap.size, 0, none⟩ 1 1 [.int .u8 m] rfl rfl ?c1 ?c2 ?c3 ?c4 ?c5 ?_)
        case c1 => exact cell_one_new _ _ _
        case c2 => intro u hu; simp at hu; subst hu; rfl
        case c3 => unfold maxLen; omega
        case c4 => omega
        case c5 => simp; omega
        intro v' w1 hown1 hgrow1 _
        have hown2 := Lib.hid (BOwn.snoc hown1 HLn.out hv.out)
        have hb1 : Below w.heap.size w w1 := ((hbel.alloc hbel.size _).grown hgrow1 (by simp; omega) (fun b hb => own_base' HO.out b hb))
        clear hown1 hgrow1
        go_wp2
        go_ret
        exact ⟨_, rfl, by rw [hp.out, ← hm.out.1, HQ.out]; exact hown2.out, hb1⟩
set_option maxRecDepth 100000 in
set_option maxHeartbeats 4000000 in
theorem refPut_calls (A : Option Addr) (n c : Nat) (l : List UInt8) (x : Int) (w : World) (hr : BRead w A n l) (hn : n ≤ 140737488351232) (hA : A = none → n = 0) (x0 : -9223372036854775808 ≤ x) (x1 : x ≤ 9223372036854775807) :
    Calls Tryd.prog 19 #[.slice A n c, .int .i64 x] w (OwnPost w (putF l x)) := by
  obtain ⟨i0, hi, hz0, hz1, hz2⟩ := info_parts info_u8
  have HI := Lib.hid hi; clear hi
  have HZ0 := Lib.hid hz0; clear hz0
  have HZ1 := Lib.hid hz1; clear hz1
  have HZ2 := Lib.hid hz2; clear hz2
  have HL := Lib.hid hr.1
  have hA' := Lib.hid hA; clear hA
  cases A with
  | none =>
    obtain rfl := hA'.out rfl
    have hl := Lib.hid (show l = [] from List.eq_nil_of_length_eq_zero HL.out)
    by_cases hneg : x < 0
    · have hp := Lib.hid (putF_neg l hneg)
      go_enter Tryd.func19, Tryd.ntmps19
      have hown : BOwn w w.heap.size (.slice none 0 0) l := by rw [hl.out]; exact BOwn.nil _ _
      have hb : Below w.heap.size w w := Below.refl _ _
      go_wp2
      go_ret
      exact ⟨_, rfl, by rw [hp.out]; exact hown, hb⟩
    · have hx0 : 0 ≤ x := by omega
      go_enter Tryd.func19, Tryd.ntmps19
      have hown : BOwn w w.heap.size (.slice none 0 0) l := by rw [hl.out]; exact BOwn.nil _ _
      have hb : Below w.heap.size w w := Below.refl _ _
      go_wp2
      go_loopw [1, 5] (fun v1 v5 wr => ∃ k : Nat, ∃ m : Int, v1 = .int .i64 m ∧ 0 ≤ m ∧ m ≤ 9223372036854775807 ∧ k ≤ 10 ∧ BOwn wr w.heap.size v5 (l ++ grp x k) ∧ Below w.heap.size w wr ∧ Asd (m = x / (128 ^ k : Nat) ∧ ∀ j, j < k → 128 ≤ x / (128 ^ j : Nat))) (fun v1 _ _ => (intOf v1).toNat)
      case atStart => exact ⟨0, x, rfl, hx0, by omega, by omega, by simpa [grp] using hown, hb, ⟨by simp, fun j hj => by omega⟩⟩
      case round =>
        obtain ⟨k, m, rfl, m0, m1, hk, hown, hbel, hm⟩ := hrel
        have hbz := hbel.size
        have hlen : (l ++ grp x k).length = k := by rw [List.length_append, grp_len, HL.out, Nat.zero_add]
        obtain ⟨q, hq⟩ : ∃ q, l ++ grp x k = q := ⟨_, rfl⟩
        rw [hq] at hlen hown
        have HQ := Lib.hid hq; clear hq
        have HO := Lib.hid (BOwn.row hown hlen); clear hown
        have HLn := Lib.hid hlen; clear hlen
        by_cases hge : 128 ≤ m
        · have hk8 : k ≤ 8 := k_bound hx0 x1 (by rw [← hm.out.1]; exact hge)
          have hv := Lib.hid (show m % 128 + 128 = ((toB (m % 128 + 128)).toNat : Int) from (toB_nat (by omega) (by omega)).symm)
          go_wp2_with (at_builtin; refine wpList_append_own _ rfl _ _ 22 rfl w.heap.size 5 i0 (.int .u8 0) 1 1 Tryd.underlying22 HI.out HZ0.out HZ1.out HZ2.out rfl (by decide) _ _ _ rfl (HO.out.alloc _) ⟨wr.heap.size, 0, none⟩ 1 1 [.int .u8 (m % 128 + 128)] rfl rfl ?c1 ?c2 ?c3 ?c4 ?c5 ?_)
          case c1 => exact cell_one_new _ _ _
          case c2 => intro u hu; simp at hu; subst hu; rfl
          case c3 => unfold maxLen; omega
          case c4 => omega
          case c5 => simp; omega
          intro v' w1 hown1 hgrow1 _
          have hown2 := Lib.hid (BOwn.snoc hown1 HLn.out hv.out)
          have hb1 : Below w.heap.size w w1 := ((hbel.alloc hbel.size _).grown hgrow1 (by simp; omega) (fun b hb => own_base' HO.out b hb))
          clear hown1 hgrow1
          go_wp2
          exact ⟨⟨k + 1, _, rfl, by omega, by omega, by omega, by rw [grp_succ, ← hm.out.1, ← List.append_assoc, HQ.out]; exact hown2.out, hb1, ⟨by rw [← div_next hx0 k, ← hm.out.1], fun j hj => (by
            by_cases e : j = k
            · subst e; rw [← hm.out.1]; exact hge
            · exact hm.out.2 j (by omega))⟩⟩, by simp [intOf]; omega⟩
        · have hk9 : k < 10 := by
            rcases Nat.eq_zero_or_pos k with h | h
            · omega
            · have := k_bound hx0 x1 (hm.out.2 (k - 1) (by omega)); omega
          have hp := Lib.hid (putF_at l hx0 hk9 hm.out.2 (by rw [← hm.out.1]; exact hge))
          have hv := Lib.hid (show m = ((toB m).toNat : Int) from (toB_nat m0 (by omega)).symm)
          have hlt : m < 128 := by omega
          clear hge
          go_wp2_with (at_builtin; refine wpList_append_own _ rfl _ _ 22 rfl w.heap.size 5 i0 (.int .u8 0) 1 1 Tryd.underlying22 HI.out HZ0.out HZ1.out HZ2.out rfl (by decide) _ _ _ rfl (HO.out.alloc _) ⟨wr.heap.size, 0, none⟩ 1 1 [.int .u8 m] rfl rfl ?c1 ?c2 ?c3 ?c4 ?c5 ?_)
          case c1 => exact cell_one_new _ _ _
          case c2 => intro u hu; simp at hu; subst hu; rfl
          case c3 => unfold maxLen; omega
          case c4 => omega
          case c5 => simp; omega
          intro v' w1 hown1 hgrow1 _
          have hown2 := Lib.hid (BOwn.snoc hown1 HLn.out hv.out)
          have hb1 : Below w.heap.size w w1 := ((hbel.alloc hbel.size _).grown hgrow1 (by simp; omega) (fun b hb => own_base' HO.out b hb))
          clear hown1 hgrow1
          go_wp2
          go_ret
          exact ⟨_, rfl, by rw [hp.out, ← hm.out.1, HQ.out]; exact hown2.out, hb1⟩
  | some ad =>
    have HC : Hid (∀ i, i < n → w.cell? (ad.add i) = some (.int .u8 (by' l i))) := Lib.hid (fun i hi => by
      obtain ⟨ad', e, hc⟩ := hr.at_ i hi
      cases e; exact hc)
    by_cases hneg : x < 0
    · have hp := Lib.hid (putF_neg l hneg)
      go_enter Tryd.func19, Tryd.ntmps19
      go_wp2_with (at_builtin; refine wpList_append_own _ rfl _ _ 22 rfl w.heap.size 5 i0 (.int .u8 0) 1 1 Tryd.underlying22 HI.out HZ0.out HZ1.out HZ2.out rfl (by decide) _ _ _ rfl (World.ownsRow_nil _ _ _ _) ad n c (l.map vb) rfl ?d0 ?d1 ?d2 ?d3 ?d4 ?d5 ?_)
      case d0 => simp [HL.out]
      case d1 => first | exact news_of HL.out (fun i hi => HC.out i hi) | exact fun j a ha => news_of HL.out (fun i hi => HC.out i hi) j (vb a) (by simp [ha])
      case d2 => first | exact vb_one | exact fun a _ => rfl
      case d3 => unfold maxLen; omega
      case d4 => omega
      case d5 => exact Nat.le_refl _
      intro v w1 hown1 hgrow1 _
      have hb : Below w.heap.size w w1 := (Below.refl _ _).grown hgrow1 (Nat.le_refl _) (fun b hb => by simp [Value.ownBlock] at hb)
      have hown : BOwn w1 w.heap.size v l := by unfold BOwn; rw [HL.out]; simpa using hown1
      clear hown1 hgrow1
      go_wp2
      go_ret
      exact ⟨_, rfl, by rw [hp.out]; exact hown, hb⟩
    · have hx0 : 0 ≤ x := by omega
      go_enter Tryd.func19, Tryd.ntmps19
      go_wp2_with (at_builtin; refine wpList_append_own _ rfl _ _ 22 rfl w.heap.size 5 i0 (.int .u8 0) 1 1 Tryd.underlying22 HI.out HZ0.out HZ1.out HZ2.out rfl (by decide) _ _ _ rfl (World.ownsRow_nil _ _ _ _) ad n c (l.map vb) rfl ?e0 ?e1 ?e2 ?e3 ?e4 ?e5 ?_)
      case e0 => simp [HL.out]
      case e1 => first | exact news_of HL.out (fun i hi => HC.out i hi) | exact fun j a ha => news_of HL.out (fun i hi => HC.out i hi) j (vb a) (by simp [ha])
      case e2 => first | exact vb_one | exact fun a _ => rfl
      case e3 => unfold maxLen; omega
      case e4 => omega
      intro v w1 hown1 hgrow1 _
      have hb : Below w.heap.size w w1 := (Below.refl _ _).grown hgrow1 (Nat.le_refl _) (fun b hb => by simp [Value.ownBlock] at hb)
      have hown : BOwn w1 w.heap.size v l := by unfold BOwn; rw [HL.out]; simpa using hown1
      clear hown1 hgrow1
      go_wp2
      go_loopw [1, 5] (fun v1 v5 wr => ∃ k : Nat, ∃ m : Int, v1 = .int .i64 m ∧ 0 ≤ m ∧ m ≤ 9223372036854775807 ∧ k ≤ 10 ∧ BOwn wr w.heap.size v5 (l ++ grp x k) ∧ Below w.heap.size w wr ∧ Asd (m = x / (128 ^ k : Nat) ∧ ∀ j, j < k → 128 ≤ x / (128 ^ j : Nat))) (fun v1 _ _ => (intOf v1).toNat)
      case atStart => exact ⟨0, x, rfl, hx0, by omega, by omega, by simpa [grp] using hown, hb, ⟨by simp, fun j hj => by omega⟩⟩
      case round =>
        obtain ⟨k, m, rfl, m0, m1, hk, hown, hbel, hm⟩ := hrel
        have hbz := hbel.size
        have hlen : (l ++ grp x k).length = n + k := by rw [List.length_append, grp_len, HL.out]
        obtain ⟨q, hq⟩ : ∃ q, l ++ grp x k = q := ⟨_, rfl⟩
        rw [hq] at hlen hown
        have HQ := Lib.hid hq; clear hq
        have HO := Lib.hid (BOwn.row hown hlen); clear hown
        have HLn := Lib.hid hlen; clear hlen
        by_cases hge : 128 ≤ m
        · have hk8 : k ≤ 8 := k_bound hx0 x1 (by rw [← hm.out.1]; exact hge)
          have hv := Lib.hid (show m % 128 + 128 = ((toB (m % 128 + 128)).toNat : Int) from (toB_nat (by omega) (by omega)).symm)
          go_wp2_with (at_builtin; refine wpList_append_own _ rfl _ _ 22 rfl w.heap.size 5 i0 (.int .u8 0) 1 1 Tryd.underlying22 HI.out HZ0.out HZ1.out HZ2.out rfl (by decide) _ _ _ rfl (HO.out.alloc _) ⟨wr.heap.size, 0, none⟩ 1 1 [.int .u8 (m % 128 + 128)] rfl rfl ?c1 ?c2 ?c3 ?c4 ?c5 ?_)
          case c1 => exact cell_one_new _ _ _
          case c2 => intro u hu; simp at hu; subst hu; rfl
          case c3 => unfold maxLen; omega
          case c4 => omega
          case c5 => simp; omega
          intro v' w1 hown1 hgrow1 _
          have hown2 := Lib.hid (BOwn.snoc hown1 HLn.out hv.out)
          have hb1 : Below w.heap.size w w1 := ((hbel.alloc hbel.size _).grown hgrow1 (by simp; omega) (fun b hb => own_base' HO.out b hb))
          clear hown1 hgrow1
          go_wp2
          exact ⟨⟨k + 1, _, rfl, by omega, by omega, by omega, by rw [grp_succ, ← hm.out.1, ← List.append_assoc, HQ.out]; exact hown2.out, hb1, ⟨by rw [← div_next hx0 k, ← hm.out.1], fun j hj => (by
            by_cases e : j = k
            · subst e; rw [← hm.out.1]; exact hge
            · exact hm.out.2 j (by omega))⟩⟩, by simp [intOf]; omega⟩
        · have hk9 : k < 10 := by
            rcases Nat.eq_zero_or_pos k with h | h
            · omega
            · have := k_bound hx0 x1 (hm.out.2 (k - 1) (by omega)); omega
          have hp := Lib.hid (putF_at l hx0 hk9 hm.out.2 (by rw [← hm.out.1]; exact hge))
          have hv := Lib.hid (show m = ((toB m).toNat : Int) from (toB_nat m0 (by omega)).symm)
          have hlt : m < 128 := by omega
          clear hge
          go_wp2_with (at_builtin; refine wpList_append_own _ rfl _ _ 22 rfl w.heap.size 5 i0 (.int .u8 0) 1 1 Tryd.underlying22 HI.out HZ0.out HZ1.out HZ2.out rfl (by decide) _ _ _ rfl (HO.out.alloc _) ⟨wr.heap.size, 0, none⟩ 1 1 [.int .u8 m] rfl rfl ?c1 ?c2 ?c3 ?c4 ?c5 ?_)
          case c1 => exact cell_one_new _ _ _
          case c2 => intro u hu; simp at hu; subst hu; rfl
          case c3 => unfold maxLen; omega
          case c4 => omega
          case c5 => simp; omega
          intro v' w1 hown1 hgrow1 _
          have hown2 := Lib.hid (BOwn.snoc hown1 HLn.out hv.out)
          have hb1 : Below w.heap.size w w1 := ((hbel.alloc hbel.size _).grown hgrow1 (by simp; omega) (fun b hb => own_base' HO.out b hb))
          clear hown1 hgrow1
          go_wp2
          go_ret
          exact ⟨_, rfl, by rw [hp.out, ← hm.out.1, HQ.out]; exact hown2.out, hb1⟩
end Go.Proofs.YteaapekkoahilaaDoor.Nu

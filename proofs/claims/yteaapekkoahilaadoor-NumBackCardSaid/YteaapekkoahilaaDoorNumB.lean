/-
  Contracts of package num and of its reference: hexadecimal text read.
-/
import Derived.Test.YteaapekkoahilaaDoorNumA
namespace Go.Proofs.YteaapekkoahilaaDoor.Nu
open Go.RowKit Go.Proofs.YteaapekkoahilaaDoor.B Go.Proofs.YteaapekkoahilaaDoor.S01
set_option linter.unusedVariables false
set_option linter.unusedSimpArgs false

def vb (x : UInt8) : Value := .int .u8 (x.toNat : Int)
/-- A slice value of the call's own that holds these bytes. -/
def BOwn (w : World) (base : Nat) (v : Value) (l : List UInt8) : Prop := w.ownsRow base 5 1 v l.length (l.map vb)
theorem info_u8 : (Tryd.prog.info? 5).map (fun i => (i.zero, i.size, i.bytes)) = some (some (.int .u8 0), 1, 1) := by kernel_rfl
theorem BOwn.nil (w : World) (base : Nat) : BOwn w base (.slice none 0 0) [] := ⟨by simp, .inl ⟨rfl, rfl⟩⟩
theorem BOwn.snoc {w : World} {base : Nat} {v : Value} {l : List UInt8} {n : Nat} {z : Int} {c : UInt8} (h : w.ownsRow base 5 1 v (n + 1) (l.map vb ++ [.int .u8 z])) (hn : l.length = n) (hz : z = (c.toNat : Int)) : BOwn w base v (l ++ [c]) := by
  subst hz; subst hn
  unfold BOwn
  rw [List.length_append, List.map_append]
  exact h

theorem BOwn.row {w : World} {base : Nat} {v : Value} {l : List UInt8} {n : Nat} (h : BOwn w base v l) (hn : l.length = n) : w.ownsRow base 5 1 v n (l.map vb) := by subst hn; exact h
theorem or_join {x y : Int} (h0 : 0 ≤ x) (h1 : x ≤ 15) (k0 : 0 ≤ y) (k1 : y ≤ 15) : bits .or .u8 (x * 16) y = ((toB (16 * x + y)).toNat : Int) := by
  rw [toB_nat (by omega) (by omega)]
  obtain ⟨a, rfl⟩ := Int.eq_ofNat_of_zero_le h0
  obtain ⟨b, rfl⟩ := Int.eq_ofNat_of_zero_le k0
  have h : ∀ p q : Fin 16, bits .or .u8 ((p.val : Int) * 16) (q.val : Int) = 16 * (p.val : Int) + (q.val : Int) := by decide +kernel
  exact h ⟨a, by omega⟩ ⟨b, by omega⟩

theorem own_base' {w : World} {base n : Nat} {e : TypeId} {size : Nat} {v : Value} {xs : List Value} (h : w.ownsRow base e size v n xs) (k : Nat) (hk : v.ownBlock = some k) : base ≤ k := by
  rcases h.2 with ⟨rfl, _⟩ | ⟨g, cap, cur, rfl, hb, _⟩
  · simp [Value.ownBlock] at hk
  · have : g = k := by simpa [Value.ownBlock] using hk
    omega
theorem pair_step {l : List UInt8} {k : Nat} {c : UInt8} (ha : ∀ i, i < k → (pairB l i).isSome = true) (h : pairB l k = some c) : ∀ i, i < k + 1 → (pairB l i).isSome = true := by
  intro i hi
  by_cases e : i = k
  · subst e; rw [h]; rfl
  · exact ha i (by omega)

theorem half_calls (c : Int) (w : World) (h0 : 0 ≤ c) (h1 : c ≤ 255) :
    Calls Tryd.prog 30 #[.int .u8 c] w fun e w' => e = .returned (.tuple #[.int .u8 ((halfF c).getD 0), .bool (halfF c).isSome]) ∧ w = w' := by
  by_cases a1 : 48 ≤ c <;> by_cases a2 : c ≤ 57 <;> by_cases a3 : 97 ≤ c <;> by_cases a4 : c ≤ 102 <;> (try omega)
  all_goals
    have hf := Lib.hid (show halfF c = if 48 ≤ c ∧ c ≤ 57 then some (c - 48) else if 97 ≤ c ∧ c ≤ 102 then some (c - 87) else none from rfl)
    first | (have d2 : decide (c ≤ 57) = false := decide_eq_false (by omega)) | skip
    first | (have d4 : decide (c ≤ 102) = false := decide_eq_false (by omega)) | skip
    go_enter Tryd.func30, Tryd.ntmps30
    go_wp2
    go_ret2
    exact ⟨by rw [hf.out]; (repeat' split) <;> (first | (exfalso; omega) | (simp; done) | (simp; omega)), rfl⟩
theorem refHalf_calls (c : Int) (w : World) (h0 : 0 ≤ c) (h1 : c ≤ 255) :
    Calls Tryd.prog 31 #[.int .u8 c] w fun e w' => e = .returned (.int .i64 ((halfF c).getD (-1))) ∧ w = w' := by
  by_cases a1 : 48 ≤ c <;> by_cases a2 : c ≤ 57 <;> by_cases a3 : 97 ≤ c <;> by_cases a4 : c ≤ 102 <;> (try omega)
  all_goals
    have hf := Lib.hid (show halfF c = if 48 ≤ c ∧ c ≤ 57 then some (c - 48) else if 97 ≤ c ∧ c ≤ 102 then some (c - 87) else none from rfl)
    first | (have d2 : decide (c ≤ 57) = false := decide_eq_false (by omega)) | skip
    first | (have d4 : decide (c ≤ 102) = false := decide_eq_false (by omega)) | skip
    go_enter Tryd.func31, Tryd.ntmps31
    go_wp2
    go_ret
    exact ⟨by rw [hf.out]; (repeat' split) <;> (first | (exfalso; omega) | (simp; done) | (simp; omega)), rfl⟩

def UnhexPost (w : World) (l : List UInt8) (e : Ending) (w' : World) : Prop :=
  Below w.heap.size w w' ∧ ((∃ v out, unhexF l = some out ∧ e = .returned (.tuple #[v, .bool true]) ∧ BOwn w' w.heap.size v out) ∨ (unhexF l = none ∧ e = .returned (.tuple #[.slice none 0 0, .bool false])))
theorem by_get (s : ByteArray) (k : Nat) (hk : k < s.size) : by' s.data.toList k = (s[k].toNat : Int) := by
  unfold by'
  simp [List.getD_eq_getElem?_getD, hk, ByteArray.getElem_eq_getElem_data]
set_option maxHeartbeats 1000000 in
theorem Unhex_calls (s : ByteArray) (w : World) (hs : s.size ≤ 281474976710656) :
    Calls Tryd.prog 12 #[.string s] w (UnhexPost w s.data.toList) := by
  have hsz : s.data.toList.length = s.size := by simp
  obtain ⟨i0, hi, hz0, hz1, hz2⟩ := info_parts info_u8
  by_cases hodd : s.size % 2 = 1
  · have hu := Lib.hid (unhex_odd (l := s.data.toList) (by rw [hsz]; exact hodd))
    have ho : ((s.size : Int) % 2 != 0) = true := by rw [bne_iff_ne]; omega
    go_enter Tryd.func12, Tryd.ntmps12
    go_wp2
    go_ret2
    exact ⟨Below.refl _ _, .inr ⟨hu.out, rfl⟩⟩
  · have ho : ((s.size : Int) % 2 != 0) = false := by rw [bne_eq_false_iff_eq]; omega
    have HZ := Lib.hid hsz; clear hsz
    have HI := Lib.hid hi; clear hi
    have HZ0 := Lib.hid hz0; clear hz0
    have HZ1 := Lib.hid hz1; clear hz1
    have HZ2 := Lib.hid hz2; clear hz2
    go_enter Tryd.func12, Tryd.ntmps12
    go_wp2
    go_loopw [4, 17] (fun v4 v17 wr => ∃ k : Nat, k ≤ s.size / 2 ∧ v17 = .int .i64 k ∧ BOwn wr w.heap.size v4 (preB s.data.toList k) ∧ Below w.heap.size w wr ∧ Asd (∀ i, i < k → (pairB s.data.toList i).isSome = true)) (fun _ v17 _ => s.size / 2 - (intOf v17).toNat)
    case atStart => exact ⟨0, Nat.zero_le _, rfl, BOwn.nil _ _, Below.refl _ _, ⟨fun i hi => by omega⟩⟩
    case round =>
      obtain ⟨k, hk, rfl, hown, hbel, ha⟩ := hrel
      by_cases hlt : k < s.size / 2
      · have l1 : 2 * k < s.size := by omega
        have l2 : 2 * k + 1 < s.size := by omega
        have g1 := by_get s (2 * k) l1
        have g2 := by_get s (2 * k + 1) l2
        obtain ⟨b0, b1⟩ := by_range s.data.toList (2 * k)
        obtain ⟨c0, c1⟩ := by_range s.data.toList (2 * k + 1)
        rw [g1] at b0 b1
        rw [g2] at c0 c1
        have G1 := Lib.hid g1; have G2 := Lib.hid g2; clear g1 g2
        have i1 : (0 : Int) ≤ 2 * (k : Int) := by omega
        have i2 : 2 * (k : Int) < (s.size : Int) := by omega
        have i3 : (0 : Int) ≤ 2 * (k : Int) + 1 := by omega
        have i4 : 2 * (k : Int) + 1 < (s.size : Int) := by omega
        obtain ⟨x, hx⟩ : ∃ x, halfF (s[2 * k].toNat : Int) = x := ⟨_, rfl⟩
        obtain ⟨y, hy⟩ : ∃ y, halfF (s[2 * k + 1].toNat : Int) = y := ⟨_, rfl⟩
        have HX := Lib.hid hx
        have HY := Lib.hid hy
        cases x with
        | none =>
          have hu := Lib.hid (unhex_no (l := s.data.toList) (i := k) (by rw [HZ.out]; exact hlt) (by unfold pairB; rw [G1.out, hx]))
          clear hx hy
          go_wp2_with fail
          refine (half_calls (s[2 * k].toNat : Int) _ b0 b1).mono ?_
          rintro e w1 ⟨rfl, rfl⟩
          rw [HX.out]
          go_wp2_with fail
          refine (half_calls (s[2 * k + 1].toNat : Int) _ c0 c1).mono ?_
          rintro e w1 ⟨rfl, rfl⟩
          go_wp2
          go_ret2
          exact ⟨hbel, .inr ⟨hu.out, rfl⟩⟩
        | some x =>
          have rx := halfF_range hx
          cases y with
          | none =>
            have hu := Lib.hid (unhex_no (l := s.data.toList) (i := k) (by rw [HZ.out]; exact hlt) (by unfold pairB; rw [G1.out, G2.out, hx, hy]))
            clear hx hy
            go_wp2_with fail
            refine (half_calls (s[2 * k].toNat : Int) _ b0 b1).mono ?_
            rintro e w1 ⟨rfl, rfl⟩
            rw [HX.out]
            go_wp2_with fail
            refine (half_calls (s[2 * k + 1].toNat : Int) _ c0 c1).mono ?_
            rintro e w1 ⟨rfl, rfl⟩
            rw [HY.out]
            go_wp2
            go_ret2
            exact ⟨hbel, .inr ⟨hu.out, rfl⟩⟩
          | some y =>
            have ry := halfF_range hy
            have hp := Lib.hid (show pairB s.data.toList k = some (toB (16 * x + y)) by unfold pairB; rw [G1.out, G2.out, hx, hy])
            clear hx hy
            have HO := Lib.hid (BOwn.row hown (preB_len _ _)); clear hown
            have hor := Lib.hid (or_join rx.1 rx.2 ry.1 ry.2)
            have hbz := hbel.size
            go_wp2_with fail
            refine (half_calls (s[2 * k].toNat : Int) _ b0 b1).mono ?_
            rintro e w1 ⟨rfl, rfl⟩
            rw [HX.out]
            go_wp2_with fail
            refine (half_calls (s[2 * k + 1].toNat : Int) _ c0 c1).mono ?_
            rintro e w1 ⟨rfl, rfl⟩
            rw [HY.out]
            go_wp2_with (at_builtin; refine wpList_append_own _ rfl _ _ 22 rfl w.heap.size 5 i0 (.int .u8 0) 1 1 Tryd.underlying22 HI.out HZ0.out HZ1.out HZ2.out rfl (by decide) _ _ _ rfl (HO.out.alloc _) ⟨wr.heap.size, 0, none⟩ 1 1 [.int .u8 (bits .or .u8 (x * 16) y)] rfl rfl ?c1 ?c2 ?c3 ?c4 ?c5 ?_)
            case c1 => exact cell_one_new _ _ _
            case c2 => intro u hu; simp at hu; subst hu; rfl
            case c3 => unfold maxLen; omega
            case c4 => omega
            case c5 => simp; omega
            intro v' w1 hown1 hgrow1 _
            have hown2 := Lib.hid (BOwn.snoc hown1 (preB_len _ _) hor.out)
            have hb1 : Below w.heap.size w w1 := ((hbel.alloc hbel.size _).grown hgrow1 (by simp; omega) (fun b hb => own_base' HO.out b hb))
            clear hown1 hgrow1
            go_wp2
            exact ⟨⟨k + 1, by omega, by go_num, by rw [preB_succ _ _ _ hp.out]; exact hown2.out, hb1, ⟨pair_step ha.out hp.out⟩⟩, by simp [intOf]; omega⟩
      · have hu := Lib.hid (unhex_yes (l := s.data.toList) (k := k) (by rw [HZ.out]; omega) (by rw [HZ.out]; exact hlt) ha.out (by rw [HZ.out]; exact hk))
        go_wp2
        go_ret2
        exact ⟨hbel, .inl ⟨_, _, hu.out, rfl, hown⟩⟩
theorem or_join' {x y : Int} (h0 : 0 ≤ x) (h1 : x ≤ 15) (k0 : 0 ≤ y) (k1 : y ≤ 15) : 16 * x + y = ((toB (16 * x + y)).toNat : Int) := (toB_nat (by omega) (by omega)).symm
set_option maxHeartbeats 1000000 in
theorem refUnhex_calls (s : ByteArray) (w : World) (hs : s.size ≤ 281474976710656) :
    Calls Tryd.prog 13 #[.string s] w (UnhexPost w s.data.toList) := by
  have hsz : s.data.toList.length = s.size := by simp
  obtain ⟨i0, hi, hz0, hz1, hz2⟩ := info_parts info_u8
  by_cases hodd : s.size % 2 = 1
  · have hu := Lib.hid (unhex_odd (l := s.data.toList) (by rw [hsz]; exact hodd))
    have ho : ((s.size : Int) % 2 == 1) = true := beq_iff_eq.2 (by omega)
    go_enter Tryd.func13, Tryd.ntmps13
    go_wp2
    go_ret2
    exact ⟨Below.refl _ _, .inr ⟨hu.out, rfl⟩⟩
  · have ho : ((s.size : Int) % 2 == 1) = false := beq_eq_false_iff_ne.2 (by omega)
    have HZ := Lib.hid hsz; clear hsz
    have HI := Lib.hid hi; clear hi
    have HZ0 := Lib.hid hz0; clear hz0
    have HZ1 := Lib.hid hz1; clear hz1
    have HZ2 := Lib.hid hz2; clear hz2
    go_enter Tryd.func13, Tryd.ntmps13
    go_wp2
    go_loopw [4, 5] (fun v4 v17 wr => ∃ k : Nat, k ≤ s.size / 2 ∧ v17 = .int .i64 (2 * (k : Int)) ∧ BOwn wr w.heap.size v4 (preB s.data.toList k) ∧ Below w.heap.size w wr ∧ Asd (∀ i, i < k → (pairB s.data.toList i).isSome = true)) (fun _ v17 _ => s.size - (intOf v17).toNat)
    case atStart => exact ⟨0, Nat.zero_le _, rfl, BOwn.nil _ _, Below.refl _ _, ⟨fun i hi => by omega⟩⟩
    case round =>
      obtain ⟨k, hk, rfl, hown, hbel, ha⟩ := hrel
      by_cases hlt : k < s.size / 2
      · have l1 : 2 * k < s.size := by omega
        have l2 : 2 * k + 1 < s.size := by omega
        have g1 := by_get s (2 * k) l1
        have g2 := by_get s (2 * k + 1) l2
        obtain ⟨b0, b1⟩ := by_range s.data.toList (2 * k)
        obtain ⟨c0, c1⟩ := by_range s.data.toList (2 * k + 1)
        rw [g1] at b0 b1
        rw [g2] at c0 c1
        have G1 := Lib.hid g1; have G2 := Lib.hid g2; clear g1 g2
        have i1 : (0 : Int) ≤ 2 * (k : Int) := by omega
        have i2 : 2 * (k : Int) < (s.size : Int) := by omega
        have i3 : (0 : Int) ≤ 2 * (k : Int) + 1 := by omega
        have i4 : 2 * (k : Int) + 1 < (s.size : Int) := by omega
        obtain ⟨x, hx⟩ : ∃ x, halfF (s[2 * k].toNat : Int) = x := ⟨_, rfl⟩
        obtain ⟨y, hy⟩ : ∃ y, halfF (s[2 * k + 1].toNat : Int) = y := ⟨_, rfl⟩
        have HX := Lib.hid hx
        have HY := Lib.hid hy
        cases x with
        | none =>
          have hu := Lib.hid (unhex_no (l := s.data.toList) (i := k) (by rw [HZ.out]; exact hlt) (by unfold pairB; rw [G1.out, hx]))
          clear hx hy
          go_wp2_with fail
          refine (refHalf_calls (s[2 * k].toNat : Int) _ b0 b1).mono ?_
          rintro e w1 ⟨rfl, rfl⟩
          rw [HX.out]
          go_wp2_with fail
          refine (refHalf_calls (s[2 * k + 1].toNat : Int) _ c0 c1).mono ?_
          rintro e w1 ⟨rfl, rfl⟩
          go_wp2
          go_ret2
          exact ⟨hbel, .inr ⟨hu.out, rfl⟩⟩
        | some x =>
          have rx := halfF_range hx
          cases y with
          | none =>
            have hu := Lib.hid (unhex_no (l := s.data.toList) (i := k) (by rw [HZ.out]; exact hlt) (by unfold pairB; rw [G1.out, G2.out, hx, hy]))
            clear hx hy
            go_wp2_with fail
            refine (refHalf_calls (s[2 * k].toNat : Int) _ b0 b1).mono ?_
            rintro e w1 ⟨rfl, rfl⟩
            rw [HX.out]
            go_wp2_with fail
            refine (refHalf_calls (s[2 * k + 1].toNat : Int) _ c0 c1).mono ?_
            rintro e w1 ⟨rfl, rfl⟩
            rw [HY.out]
            go_wp2
            go_ret2
            exact ⟨hbel, .inr ⟨hu.out, rfl⟩⟩
          | some y =>
            have ry := halfF_range hy
            have hp := Lib.hid (show pairB s.data.toList k = some (toB (16 * x + y)) by unfold pairB; rw [G1.out, G2.out, hx, hy])
            clear hx hy
            have HO := Lib.hid (BOwn.row hown (preB_len _ _)); clear hown
            have hor := Lib.hid (or_join' rx.1 rx.2 ry.1 ry.2)
            have hbz := hbel.size
            go_wp2_with fail
            refine (refHalf_calls (s[2 * k].toNat : Int) _ b0 b1).mono ?_
            rintro e w1 ⟨rfl, rfl⟩
            rw [HX.out]
            go_wp2_with fail
            refine (refHalf_calls (s[2 * k + 1].toNat : Int) _ c0 c1).mono ?_
            rintro e w1 ⟨rfl, rfl⟩
            rw [HY.out]
            go_wp2_with (at_builtin; refine wpList_append_own _ rfl _ _ 22 rfl w.heap.size 5 i0 (.int .u8 0) 1 1 Tryd.underlying22 HI.out HZ0.out HZ1.out HZ2.out rfl (by decide) _ _ _ rfl (HO.out.alloc _) ⟨wr.heap.size, 0, none⟩ 1 1 [.int .u8 (16 * x + y)] rfl rfl ?c1 ?c2 ?c3 ?c4 ?c5 ?_)
            case c1 => exact cell_one_new _ _ _
            case c2 => intro u hu; simp at hu; subst hu; rfl
            case c3 => unfold maxLen; omega
            case c4 => omega
            case c5 => simp; omega
            intro v' w1 hown1 hgrow1 _
            have hown2 := Lib.hid (BOwn.snoc hown1 (preB_len _ _) hor.out)
            have hb1 : Below w.heap.size w w1 := ((hbel.alloc hbel.size _).grown hgrow1 (by simp; omega) (fun b hb => own_base' HO.out b hb))
            clear hown1 hgrow1
            go_wp2
            exact ⟨⟨k + 1, by omega, by first | go_num | (congr 1; omega), by rw [preB_succ _ _ _ hp.out]; exact hown2.out, hb1, ⟨pair_step ha.out hp.out⟩⟩, by simp [intOf]; omega⟩
      · have i5 : ¬ 2 * (k : Int) + 1 < (s.size : Int) := by omega
        have hu := Lib.hid (unhex_yes (l := s.data.toList) (k := k) (by rw [HZ.out]; omega) (by rw [HZ.out]; exact hlt) ha.out (by rw [HZ.out]; exact hk))
        go_wp2
        go_ret2
        exact ⟨hbel, .inl ⟨_, _, hu.out, rfl, hown⟩⟩
end Go.Proofs.YteaapekkoahilaaDoor.Nu

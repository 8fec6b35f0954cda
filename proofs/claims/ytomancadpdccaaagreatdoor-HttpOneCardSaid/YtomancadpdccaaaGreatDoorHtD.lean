/-
  HTTP, the document's: find, split, visible, bearer, the first line.
-/
import Derived.Test.YtomancadpdccaaaGreatDoorHtB
namespace Go.Proofs.YtomancadpdccaaaGreatDoor.Ht
open Go.RowKit Go.Proofs.YtomancadpdccaaaGreatDoor.B
open Go.Proofs.YtomancadpdccaaaGreatDoor.M hiding Bs
open Go.Proofs.YtomancadpdccaaaGreatDoor.C (QRow Turn)
set_option linter.unusedVariables false
set_option linter.unusedSimpArgs false

theorem ext_mid (s : Bs) (i j : Nat) : (⟨s.toArray⟩ : ByteArray).extract i (i + j) = ⟨((s.drop i).take j).toArray⟩ := by
  apply ByteArray.ext
  apply Array.ext'
  simp [ByteArray.data_extract]
theorem idx_or (s t : Bs) : (Lib.index s t = -1 ∧ ∀ j, j + t.length ≤ s.length → (s.drop j).take t.length ≠ t) ∨ ∃ i : Nat, Lib.index s t = i ∧ i + t.length ≤ s.length ∧ (s.drop i).take t.length = t ∧ ∀ j, j < i → (s.drop j).take t.length ≠ t := by
  by_cases h : Lib.index s t < 0
  · have := Lib.index_ge s t
    exact .inl ⟨by omega, fun j hj => idx_no h hj⟩
  · obtain ⟨i, hi⟩ : ∃ i : Nat, Lib.index s t = i := ⟨(Lib.index s t).toNat, by omega⟩
    exact .inr ⟨i, hi, idx_room hi, idx_take hi, fun j hj => idx_first hi hj⟩
set_option maxRecDepth 100000 in
set_option maxHeartbeats 2000000 in
theorem find_calls (s t : Bs) (hs : s.length ≤ 4000000000000000000) (ht : t.length ≤ 4000000000000000000) (w : World) : Calls Tryz.prog 25 #[vs s, vs t] w fun e w' => e = .returned (.int .i64 (Lib.index s t)) ∧ w' = w := by
  have h1 := sz s
  have h2 := sz t
  have HI := Lib.hid (idx_or s t)
  have HX := Lib.hid (ext_mid s)
  go_enter Tryz.func25, Tryz.ntmps25
  go_wp2_with fail
  go_loopw [5] (fun v5 wr => ∃ k : Nat, k ≤ s.length + 1 ∧ v5 = .int .i64 k ∧ Hid (∀ j, j < k → j + t.length ≤ s.length → (s.drop j).take t.length ≠ t) ∧ wr = w) (fun v5 _ => s.length + 2 - (intOf v5).toNat)
  case atStart => exact ⟨0, Nat.zero_le _, rfl, Lib.hid (fun j hj => by omega), rfl⟩
  case round =>
    obtain ⟨k, hk, rfl, HA, rfl⟩ := hrel
    have k0 : (0 : Int) ≤ (k : Int) := by omega
    by_cases hlt : k + t.length ≤ s.length
    · have hlt' : (k : Int) + (t.length : Int) ≤ (s.length : Int) := by omega
      have hw : IntKind.i64.wrap ((k : Int) + (t.length : Int)) = (k : Int) + (t.length : Int) := by rw [IntKind.wrap_i64]; omega
      have hle : (k : Int) ≤ (k : Int) + (t.length : Int) := by omega
      have hx := HX.out k t.length
      by_cases heq : (s.drop k).take t.length = t
      · have HR := Lib.hid (show Lib.index s t = (k : Int) from idx_is hlt heq (fun j hj => HA.out j hj (by omega)))
        rw [heq] at hx
        have hee : (t == t) = true := by simp
        go_wp2_with fail
        go_ret
        exact ⟨by rw [HR.out]; rfl, rfl⟩
      · have HN := Lib.hid heq
        have hne : ((s.drop k).take t.length == t) = false := by rw [beq_eq_false_iff_ne]; exact heq
        have HA2 := Lib.hid (show ∀ j, j < k + 1 → j + t.length ≤ s.length → (s.drop j).take t.length ≠ t from fun j hj hl => by
          rcases Nat.lt_or_ge j k with h | h
          · exact HA.out j h hl
          · obtain rfl : j = k := by omega
            exact HN.out)
        generalize hq : (s.drop k).take t.length = q at *
        clear heq hq
        go_wp2
        exact ⟨⟨k + 1, by omega, by go_num, HA2, by trivial⟩, by simp [intOf]; omega⟩
    · have hlt' : ¬ (k : Int) + (t.length : Int) ≤ (s.length : Int) := by omega
      have hw : IntKind.i64.wrap ((k : Int) + (t.length : Int)) = (k : Int) + (t.length : Int) := by rw [IntKind.wrap_i64]; omega
      have HR := Lib.hid (show Lib.index s t = -1 by
        rcases HI.out with ⟨h, _⟩ | ⟨i, hi, hr, he, _⟩
        · exact h
        · exact absurd he (HA.out i (by omega) hr))
      go_wp2_with fail
      go_ret
      exact ⟨by rw [HR.out]; rfl, rfl⟩
def strLen : Value → Nat
  | .string b => b.size
  | _ => 0
theorem ext_to (s : Bs) (i : Nat) : (⟨s.toArray⟩ : ByteArray).extract 0 i = ⟨(s.take i).toArray⟩ := by
  have := ext_mid s 0 i
  rw [Nat.zero_add] at this
  simpa using this
set_option maxRecDepth 100000 in
set_option maxHeartbeats 4000000 in
theorem split_calls (s t : Bs) (hs : s.length ≤ 1000000) (ht : t ≠ []) (htl : t.length ≤ 1000) (w : World) : Calls Tryz.prog 26 #[vs s, vs t] w fun e w' => ∃ v, e = .returned v ∧ SOwn w' w.heap.size v (Lib.split s t) ∧ Below w.heap.size w w' := by
  have HO0 := Lib.hid (SOwn.nil w w.heap.size)
  have HB0 := Lib.hid (Below.refl w.heap.size w)
  have HT := Lib.hid ht
  clear ht
  go_enter Tryz.func26, Tryz.ntmps26
  go_wp2_with fail
  go_loopw [0, 5] (fun v0 v5 wr => ∃ (q : Bs) (acc : List Bs), v0 = vs q ∧ q.length + acc.length ≤ s.length ∧ Hid (acc ++ Lib.split q t = Lib.split s t) ∧ Hid (SOwn wr w.heap.size v5 acc) ∧ Hid (Below w.heap.size w wr)) (fun v0 _ _ => strLen v0)
  case atStart => exact ⟨s, [], rfl, by simp, Lib.hid (by simp), HO0, HB0⟩
  case round =>
    clear HO0 HB0
    obtain ⟨q, acc, rfl, hq, HE, HO, HB⟩ := hrel
    have hbz := HB.out.size
    have h1 := sz q
    obtain ⟨A, c, rfl, hc, -⟩ := HO.out.rd
    have HF := Lib.hid (fun W => find_calls q t (by omega) (by omega) W)
    obtain ⟨n, hn⟩ : ∃ n, acc.length = n := ⟨_, rfl⟩
    have HN := Lib.hid hn
    rw [hn] at hc HO hq ⊢
    clear hn
    rcases idx_or q t with ⟨hi, -⟩ | ⟨i, hi, hr, -, -⟩
    · rw [hi] at HF
      have HF2 := Lib.hid (show acc ++ [q] = Lib.split s t by rw [← HE.out, spl_miss (by omega)])
      clear hi
      go_wp2_with fail
      refine (HF.out _).mono ?_
      rintro e w1 ⟨rfl, rfl⟩
      go_wp2_with (at_builtin; go_loud (refine wpList_pushS rfl _ _ rfl w.heap.size (.slice A n c) acc q n rfl HO.out HN.out rfl (by omega) hbz ?_))
      intro v' w2 hown hb
      rw [HF2.out] at hown
      have HO2 := Lib.hid hown
      have HB2 := Lib.hid (hb _ HB.out)
      clear hown hb
      go_wp2
      go_ret
      exact ⟨_, rfl, HO2.out, HB2.out⟩
    · have hlt : 0 < t.length := List.length_pos_iff.2 HT.out
      have HS := Lib.hid (show acc ++ [q.take i] ++ Lib.split (q.drop (i + t.length)) t = Lib.split s t by rw [← HE.out, spl_hit HT.out hi, List.append_assoc]; rfl)
      rw [hi] at HF
      clear hi
      have hx1 := ext_to q i
      have hx2 := ext_drop q (i + t.length) q.length rfl
      have i0 : ¬ (i : Int) < 0 := by omega
      have hiq : (i : Int) ≤ (q.length : Int) := by omega
      have hitq : (i : Int) + (t.length : Int) ≤ (q.length : Int) := by omega
      have hw : IntKind.i64.wrap ((i : Int) + (t.length : Int)) = (i : Int) + (t.length : Int) := by rw [IntKind.wrap_i64]; omega
      have h2 := sz t
      go_wp2_with fail
      refine (HF.out _).mono ?_
      rintro e w1 ⟨rfl, rfl⟩
      go_wp2_with (at_builtin; go_loud (refine wpList_pushS rfl _ _ rfl w.heap.size (.slice A n c) acc (q.take i) n rfl HO.out HN.out rfl (by omega) hbz ?_))
      intro v' w2 hown hb
      have HO2 := Lib.hid hown
      have HB2 := Lib.hid (hb _ HB.out)
      clear hown hb
      have hl : (q.drop (i + t.length)).length = q.length - (i + t.length) := List.length_drop
      have hn1 : (acc ++ [q.take i]).length = n + 1 := by rw [List.length_append, HN.out]; rfl
      go_wp2
      rw [hx2]
      refine ⟨⟨_, _, rfl, by rw [hl, hn1]; omega, HS, HO2, HB2⟩, ?_⟩
      show (⟨(q.drop (i + t.length)).toArray⟩ : ByteArray).size < (⟨q.toArray⟩ : ByteArray).size
      rw [sz, sz, hl]
      omega
set_option maxRecDepth 100000 in
set_option maxHeartbeats 2000000 in
theorem dvisible_calls (s : Bs) (hs : s.length ≤ 4000000000000000000) (w : World) : Calls Tryz.prog 48 #[vs s] w fun e w' => e = .returned (.bool (s.all vis)) ∧ w' = w := by
  have hsz := sz s
  go_enter Tryz.func48, Tryz.ntmps48
  go_wp2_with fail
  go_loopw [3] (fun v3 wr => ∃ k : Nat, k ≤ s.length ∧ v3 = .int .i64 k ∧ Hid ((s.take k).all vis = true) ∧ wr = w) (fun v3 _ => s.length - (intOf v3).toNat)
  case atStart => exact ⟨0, Nat.zero_le _, rfl, Lib.hid rfl, rfl⟩
  case round =>
    obtain ⟨k, hk, rfl, HA, rfl⟩ := hrel
    have k0 : (0 : Int) ≤ (k : Int) := by omega
    by_cases hlt : k < s.length
    · have hlt' : (k : Int) < (s.length : Int) := by omega
      have HT := Lib.hid (all_take vis s hlt)
      have HN := Lib.hid (fun h => all_not vis s hlt h)
      have hg := get_ub s hlt
      obtain ⟨c, hc⟩ : ∃ c, s.getD k 0 = c := ⟨_, rfl⟩
      rw [hc] at HT HN hg
      clear hc
      have HV := Lib.hid (show vis c = (decide (32 < c.toNat) && decide (c.toNat < 127)) from rfl)
      obtain ⟨x, hx⟩ : ∃ x, c.toNat = x := ⟨_, rfl⟩
      have hgx : ∀ h', ((((⟨s.toArray⟩ : ByteArray)[k]'h').toNat : Nat) : Int) = (x : Int) := fun h' => by rw [hg h', hx]
      rw [hx] at HV
      clear hg hx
      by_cases h1 : x < 33
      · have h1' : (x : Int) < 33 := by omega
        have HF := Lib.hid (HN.out (by rw [HV.out]; simp; omega))
        go_wp2
        go_ret
        exact ⟨by rw [HF.out]; rfl, rfl⟩
      · have h1' : ¬ (x : Int) < 33 := by omega
        by_cases h2 : 126 < x
        · have h2' : (126 : Int) < (x : Int) := by omega
          have HF := Lib.hid (HN.out (by rw [HV.out]; simp; omega))
          go_wp2
          go_ret
          exact ⟨by rw [HF.out]; rfl, rfl⟩
        · have h2' : ¬ (126 : Int) < (x : Int) := by omega
          have HT2 := Lib.hid (show (s.take (k + 1)).all vis = true by rw [HT.out, HA.out, HV.out]; simp; omega)
          go_wp2
          exact ⟨⟨k + 1, by omega, by go_num, HT2, by trivial⟩, by simp [intOf]; omega⟩
    · have hke : k = s.length := by omega
      subst hke
      have hlt' : ¬ (s.length : Int) < (s.length : Int) := by omega
      have HF := Lib.hid (show s.all vis = true by have := HA.out; rwa [List.take_length] at this)
      go_wp2_with fail
      go_ret
      exact ⟨by rw [HF.out]; rfl, rfl⟩
end Go.Proofs.YtomancadpdccaaaGreatDoor.Ht

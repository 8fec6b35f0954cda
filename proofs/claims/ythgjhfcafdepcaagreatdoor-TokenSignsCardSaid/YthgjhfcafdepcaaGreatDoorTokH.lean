/-
  Tokens: the key that is looked for (the program's).
-/
import Derived.Test.YthgjhfcafdepcaaGreatDoorTokG
namespace Go.Proofs.YthgjhfcafdepcaaGreatDoor.Tk
open Go.RowKit Go.Proofs.YthgjhfcafdepcaaGreatDoor.B Go.Proofs.YthgjhfcafdepcaaGreatDoor.S10
open Go.Proofs.YthgjhfcafdepcaaGreatDoor.M
open Go.Proofs.YthgjhfcafdepcaaGreatDoor.C (QRow Turn)
open Go.Proofs.YthgjhfcafdepcaaGreatDoor.Sh (macF macF_len RdB)
open Go.Proofs.YthgjhfcafdepcaaGreatDoor.S01 (hexF unhexF)
set_option linter.unusedVariables false
set_option linter.unusedSimpArgs false

def kAt (ks : List Ky) (j : Nat) : Ky := ks.getD j ⟨[], [], false⟩
def KyR (w : World) (k : Ky) (cs : List Value) : Prop := ∃ A n c, cs = [vs k.name, .slice A n c, .bool k.rev] ∧ k.bytes.length = n ∧ n ≤ c ∧ RdB w (fun _ => True) A k.bytes
abbrev KeysR (w : World) (ks : List Ky) (A : Option Addr) (n : Nat) : Prop := SlV w (fun _ => True) 3 (KyR w) ks A n
theorem KyR.below {w w' : World} {k : Ky} {cs : List Value} (h : KyR w k cs) (hb : Below w.heap.size w w') : KyR w' k cs := by
  obtain ⟨A, n, c, h1, h2, h3, h4⟩ := h
  exact ⟨A, n, c, h1, h2, h3, h4.below hb (fun _ _ _ => trivial)⟩
theorem keys_below {w w' : World} {ks : List Ky} {A : Option Addr} {n : Nat} (h : KeysR w ks A n) (hb : Below w.heap.size w w') : KeysR w' ks A n := h.below (by decide) hb (fun _ _ hx => hx.below hb)
theorem key_cells {w : World} {ks : List Ky} {A : Option Addr} {n : Nat} (h : KeysR w ks A n) (j : Nat) (hj : j < n) :
    ∃ ad p B m d, A = some ad ∧ ad.add (j * 3) = p ∧ w.cell? p = some (vs (kAt ks j).name) ∧ w.cell? ⟨p.block, p.off + 1, none⟩ = some (.slice B m d) ∧ w.cell? ⟨p.block, p.off + 2, none⟩ = some (.bool (kAt ks j).rev) ∧ (kAt ks j).bytes.length = m ∧ m ≤ d ∧ RdB w (fun _ => True) B (kAt ks j).bytes := by
  obtain ⟨ad, p, cs, h1, h2, -, -, h5, h6⟩ := h.2.2 j (kAt ks j) (getD_some _ (by rw [h.1]; exact hj))
  obtain ⟨B, m, d, rfl, h7, h8, h9⟩ := h6
  have c0 := h5 0 _ rfl
  have c1 := h5 1 _ rfl
  have c2 := h5 2 _ rfl
  rw [add_zero] at c0
  rw [Addr.add_succ'] at c1 c2
  exact ⟨ad, p, B, m, d, h1, h2, c0, c1, c2, h7, h8, h9⟩
theorem find_hit {n : Bs} : ∀ {ks : List Ky} {j : Nat}, j < ks.length → (∀ i, i < j → ((kAt ks i).name == n) = false) → ((kAt ks j).name == n) = true → findK ks n = some (kAt ks j)
  | [], j, hj, _, _ => by simp at hj
  | k :: ks, 0, _, _, h => by
    have h' : (k.name == n) = true := h
    unfold findK
    rw [List.find?_cons_of_pos (p := fun k : Ky => k.name == n) h']
    rfl
  | k :: ks, j + 1, hj, ha, h => by
    have h' : (k.name == n) = false := ha 0 (by omega)
    have ih := find_hit (n := n) (ks := ks) (j := j) (by simpa using hj) (fun i hi => ha (i + 1) (by omega)) h
    unfold findK at ih ⊢
    rw [List.find?_cons_of_neg (p := fun k : Ky => k.name == n) (by rw [h']; simp), ih]
    rfl
theorem find_miss {n : Bs} {ks : List Ky} (h : ∀ i, i < ks.length → ((kAt ks i).name == n) = false) : findK ks n = none := by
  unfold findK
  rw [List.find?_eq_none]
  intro k hk
  obtain ⟨i, hi, rfl⟩ := List.mem_iff_getElem.1 hk
  have := h i hi
  unfold kAt at this
  rw [List.getD_eq_getElem?_getD, List.getElem?_eq_getElem hi] at this
  rw [Option.getD_some] at this
  rw [this]; simp
set_option maxRecDepth 100000 in
set_option maxHeartbeats 1000000 in
theorem isKey_calls (k : Ky) (B : Option Addr) (m d cb : Nat) (key : Bs) (w : World) (hc : w.cell? ⟨cb, 3, none⟩ = some (vs key)) :
    Calls Tryz.prog 38 #[.agg #[vs k.name, .slice B m d, .bool k.rev], .pointer (some ⟨cb, 0, none⟩)] w (BRet w (k.name == key)) := by
  have hca := cellAlloc hc (.cells #[vs k.name, .slice B m d, .bool k.rev] 41)
  obtain ⟨kn, kb, kr⟩ := k
  obtain ⟨b, hb⟩ : ∃ b, (kn == key) = b := ⟨_, rfl⟩
  have HBB := Lib.hid hb
  go_enter Tryz.func38, Tryz.ntmps38
  go_wp2
  go_ret
  exact ⟨by first | rfl | (rw [HBB.out]; rfl), (Below.refl _ w).alloc (Nat.le_refl _) _⟩
def IxRet (w : World) (ks : List Ky) (key : Bs) (e : Ending) (w' : World) : Prop := ∃ r : Int, e = .returned (.int .i64 r) ∧ Below w.heap.size w w' ∧ ((r = -1 ∧ findK ks key = none) ∨ ∃ j : Nat, j < ks.length ∧ r = j ∧ findK ks key = some (kAt ks j))
set_option maxRecDepth 100000 in
set_option maxHeartbeats 4000000 in
theorem idxKey_calls (ks : List Ky) (A : Option Addr) (n c cb : Nat) (key : Bs) (w : World) (h : KeysR w ks A n) (hc : w.cell? ⟨cb, 3, none⟩ = some (vs key)) :
    Calls Tryz.prog 37 #[.slice A n c, .func (.func 38) #[] #[.pointer (some ⟨cb, 0, none⟩)]] w (IxRet w ks key) := by
  have hnl := h.2.1
  have hkl := h.1
  have S := Lib.hid h
  have HC := Lib.hid hc
  clear h hc
  go_enter Tryz.func37, Tryz.ntmps37
  go_wp2_with fail
  go_loopw [5, 8] (fun v5 v8 wr => ∃ j : Nat, j ≤ n ∧ v8 = .int .i64 j ∧ Hid (∀ i, i < j → ((kAt ks i).name == key) = false) ∧ Hid (Below w.heap.size w wr)) (fun _ v8 _ => n - (intOf v8).toNat)
  case atStart => exact ⟨0, Nat.zero_le _, rfl, Lib.hid (fun i hi => by omega), Lib.hid (Below.refl _ _)⟩
  case round =>
    obtain ⟨j, hjn, rfl, HALL, HB⟩ := hrel
    by_cases hj : j < n
    · obtain ⟨ad, p, B, m, d, rfl, hp, d0, d1, d2, hr⟩ := key_cells (keys_below S.out HB.out) j hj
      have HCL := Lib.hid (isKey_calls (kAt ks j) B m d cb key wr (keepC HB.out HC.out))
      obtain ⟨k, hk⟩ : ∃ k, kAt ks j = k := ⟨_, rfl⟩
      rw [hk] at HCL d0 d2
      have HK := Lib.hid hk
      clear hr hk
      obtain ⟨b, hb⟩ : ∃ b, (k.name == key) = b := ⟨_, rfl⟩
      rw [hb] at HCL
      have HBB := Lib.hid hb
      obtain ⟨kn, kb, kr⟩ := k
      clear hb
      go_wp2_with fail
      refine HCL.out.mono ?_
      rintro e w1 ⟨rfl, hb⟩
      have HB1 := Lib.hid (keepB HB.out hb)
      clear hb
      cases b
      · go_wp2
        exact ⟨⟨j + 1, by omega, by go_num, Lib.hid (fun i hi => by
          by_cases e : i = j
          · subst e; rw [HK.out]; exact HBB.out
          · exact HALL.out i (by omega)), HB1⟩, by simp [intOf]; omega⟩
      · go_wp2
        go_ret
        exact ⟨j, rfl, HB1.out, .inr ⟨j, by omega, rfl, find_hit (ks := ks) (by omega) HALL.out (by rw [HK.out]; exact HBB.out)⟩⟩
    · have hjn' : j = n := by omega
      subst hjn'
      go_wp2
      go_ret
      exact ⟨-1, rfl, HB.out, .inl ⟨rfl, find_miss (fun i hi => HALL.out i (by omega))⟩⟩
end Go.Proofs.YthgjhfcafdepcaaGreatDoor.Tk

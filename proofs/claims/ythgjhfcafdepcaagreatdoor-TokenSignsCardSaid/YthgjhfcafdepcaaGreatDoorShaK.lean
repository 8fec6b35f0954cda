/-
  SHA-256, the document's: the bytes filled up.
-/
import Derived.Test.YthgjhfcafdepcaaGreatDoorShaJ
import Derived.Lib.AppendZeros
namespace Go.Proofs.YthgjhfcafdepcaaGreatDoor.Sh
open Go.RowKit Go.Proofs.YthgjhfcafdepcaaGreatDoor.B
open Go.Proofs.YthgjhfcafdepcaaGreatDoor.M hiding Bs
open Go.Proofs.YthgjhfcafdepcaaGreatDoor.C (QRow Turn)
set_option linter.unusedVariables false
set_option linter.unusedSimpArgs false

/-- append of bytes that lie anywhere, onto a row of one's own. -/
theorem app_bytes {W : World} {base : Nat} {v : Value} {l m : Bs} {A : Option Addr} {n k c : Nat} {F : Nat → Prop} (hown : Nu.BOwn W base v l) (hn : l.length = n) (hm : m.length = k) (hR : RdB W F A m) (hmax : n + k ≤ 140737488351232) (hbase : base ≤ W.heap.size) :
    ∃ v' w', (Builtin.append_ #[22, 22] 22 #[v, .slice A k c]).run Tryz.prog W = .ok v' w' ∧ Nu.BOwn w' base v' (l ++ m) ∧ (∀ w0, Below base w0 W → Below base w0 w') := by
  obtain ⟨i0, hi, hz0, hz1, hz2⟩ := info_parts Nu.info_u8
  by_cases h0 : k = 0
  · subst h0
    obtain rfl : m = [] := List.eq_nil_of_length_eq_zero hm
    have hr : (Builtin.append_ #[22, 22] 22 #[v, .slice A 0 c]).run Tryz.prog W = .ok v W := by
      rcases hown.2 with ⟨rfl, _⟩ | ⟨g, cap, cur, rfl, h1, h2, h3, h4⟩
      · cases A <;> simp [Builtin.append_, run_underlying Tryz.underlying22, sizeOf, typeInfo, hi, Builtin.lenOf, Builtin.firstCells, storeCells, loadCells, loadCellsFrom]
      · cases A <;> simp [Builtin.append_, run_underlying Tryz.underlying22, sizeOf, typeInfo, hi, Builtin.lenOf, Builtin.firstCells, storeCells, loadCells, loadCellsFrom, h3]
    exact ⟨v, W, hr, by rw [List.append_nil]; exact hown, fun _ h => h⟩
  · obtain ⟨ad, rfl⟩ := hR.at_ (by omega)
    obtain ⟨v', w', r1, r2, r3, -⟩ := run_append_own (P := Tryz.prog) W base 22 22 5 i0 (.int .u8 0) 1 1 Tryz.underlying22 hi hz0 hz1 hz2 rfl (by decide) v n (l.map Nu.vb) (BOwn.row' hown hn) ad k c (m.map Nu.vb) (by simp [hm]) (fun j u hj => by
      rw [List.getElem?_map] at hj
      obtain ⟨x, hx, rfl⟩ := Option.map_eq_some_iff.1 hj
      obtain ⟨ad', h1, h2, h3⟩ := hR j x hx
      cases h1
      exact h3) (fun u hu => by
      obtain ⟨y, _, rfl⟩ := List.mem_map.1 hu
      rfl) (by unfold maxLen; omega) (by omega) hbase
    exact ⟨v', w', r1, BOwn.many r2 hn hm rfl, fun w0 hb => hb.grown r3 hbase (fun b hb => Nu.own_base' hown b hb)⟩
def mS (N : Nat) : Value → Nat
  | .slice _ m _ => N - m
  | _ => 0
theorem lb_lt (n i : Nat) (k : Nat) (hk : 256 ^ (7 - i) = k) (h0 : 0 < k) (h : (n : Int) * 8 / (k : Int) < 256) : (n : Int) * 8 / (k : Int) = ((lb n i).toNat : Int) := by
  rw [← lb_int n i k hk h0, Int.emod_eq_of_lt (Int.ediv_nonneg (by omega) (by omega)) h]
theorem len_push (p : Bs) (n k : Nat) (hn : p.length = n) : (p ++ 128 :: List.replicate k (0 : UInt8)).length = n + (1 + k) := by
  rw [List.length_append, hn, List.length_cons, List.length_replicate]
  omega
set_option maxRecDepth 100000 in
set_option maxHeartbeats 8000000 in
theorem dfilled_calls {w : World} {F : Nat → Prop} {A : Option Addr} {n c : Nat} {p : Bs} (hn : p.length = n) (hL : n ≤ 1000000) (hp : RdB w F A p) :
    Calls Tryz.prog 74 #[.slice A n c] w fun e w' => ∃ v, e = .returned v ∧ Nu.BOwn w' w.heap.size v (p ++ padB n) ∧ Below w.heap.size w w' := by
  obtain ⟨v0, w0, hr, hown, hb⟩ := app_bytes (c := c) (Nu.BOwn.nil w w.heap.size) (n := 0) rfl hn hp (by omega) (Nat.le_refl _)
  obtain ⟨A0, c0, rfl, hc0, -⟩ := BOwn.rd (F := fun _ => True) hown (fun _ _ => trivial)
  rw [List.nil_append, hn] at hr hown hc0
  have HR := Lib.hid hr
  have HO := Lib.hid hown
  have HB := Lib.hid (hb w (Below.refl _ w))
  have HN := Lib.hid hn
  clear hr hown hb hp hn
  go_enter Tryz.func74, Tryz.ntmps74
  have hbz := HB.out.size
  go_wp2_with (at_builtin; first | refine Lib.wpList_append_run _ rfl _ _ 22 22 rfl _ _ rfl rfl _ _ HR.out ?_ | refine wpList_push rfl _ _ rfl w.heap.size _ p [128] n 1 rfl HO.out HN.out rfl rfl (by omega) hbz rfl ?_)
  intro v1 w1 hown1 hb1
  have HO1 := Lib.hid (show Nu.BOwn w1 w.heap.size v1 (p ++ 128 :: List.replicate 0 0) from hown1)
  have HB1 := Lib.hid (hb1 _ HB.out)
  clear hown1 hb1 HO HB HR
  obtain ⟨A1, c1, rfl, hc1, -⟩ := BOwn.rd (F := fun _ => True) HO1.out (fun _ _ => trivial)
  have hlp0 := len_push p n 0 HN.out
  obtain ⟨n0, hn0⟩ : ∃ n0, (p ++ 128 :: List.replicate 0 (0 : UInt8)).length = n0 := ⟨_, rfl⟩
  rw [hn0] at hc1 hlp0 HO1 ⊢
  clear hn0 hlp0
  go_wp2_with fail
  go_loopw [3] (fun v3 wr => ∃ k : Nat, k ≤ zeros n ∧ Hid (Nu.BOwn wr w.heap.size v3 (p ++ 128 :: List.replicate k 0)) ∧ Hid (Below w.heap.size w wr)) (fun v3 _ => mS (n + 100) v3)
  case atStart => exact ⟨0, Nat.zero_le _, HO1, HB1⟩
  case round =>
    clear HO1 HB1
    obtain ⟨k, hk, HO, HB⟩ := hrel
    have hbz := HB.out.size
    have hzl := zeros_lt n
    have hlp := len_push p n k HN.out
    obtain ⟨q, hq⟩ : ∃ q, p ++ 128 :: List.replicate k (0 : UInt8) = q := ⟨_, rfl⟩
    rw [hq] at HO hlp
    have HQ := Lib.hid hq
    clear hq
    obtain ⟨A2, c2, rfl, hc2, -⟩ := BOwn.rd (F := fun _ => True) HO.out (fun _ _ => trivial)
    obtain ⟨n1, hn1⟩ : ∃ n1, q.length = n1 := ⟨_, rfl⟩
    rw [hn1] at hc2 HO hlp ⊢
    have HN1 := Lib.hid hn1
    clear hn1
    have hzg := zeros_go hk
    rw [← hlp] at hzg
    have HLP := Lib.hid hlp
    rcases hzg with ⟨hkz, h56⟩ | ⟨hkz, h56⟩
    · have hne : ((n1 : Int) % 64 != 56) = false := by rw [bne_eq_false_iff_eq]; omega
      have HOE := Lib.hid (show Nu.BOwn wr w.heap.size (.slice A2 n1 c2) (p ++ endB n 0) by
        have := HO.out
        rw [← HQ.out, hkz] at this
        simpa [endB] using this)
      clear hlp h56 hkz
      have e8 : IntKind.u64.wrap (n : Int) = (n : Int) := by rw [IntKind.wrap_u64]; omega
      have e9 : IntKind.u64.wrap ((n : Int) * 8) = (n : Int) * 8 := by rw [IntKind.wrap_u64]; omega
      go_wp2_with fail
      go_loopw [3, 5] (fun v3 v5 wr => ∃ (i : Nat) (z : Int), i ≤ 8 ∧ z = 7 - (i : Int) ∧ v5 = .int .i64 z ∧ Hid (Nu.BOwn wr w.heap.size v3 (p ++ endB n i)) ∧ Hid (Below w.heap.size w wr)) (fun _ v5 _ => (intOf v5 + 1).toNat)
      case atStart => exact ⟨0, 7, Nat.zero_le _, rfl, rfl, HOE, HB⟩
      case round =>
        clear HOE HB HO
        obtain ⟨i, z, hi, hz, rfl, HO, HB⟩ := hrel
        have hbz := HB.out.size
        have HE := Lib.hid (show p ++ endB n (i + 1) = (p ++ endB n i) ++ [lb n i] by rw [endB_succ, List.append_assoc])
        obtain ⟨q2, hq2⟩ : ∃ q2, p ++ endB n i = q2 := ⟨_, rfl⟩
        have hl2 : q2.length ≤ 2000000 := by rw [← hq2, List.length_append, HN.out, endB_len]; omega
        rw [hq2] at HO HE
        obtain ⟨A3, c3, rfl, hc3, -⟩ := BOwn.rd (F := fun _ => True) HO.out (fun _ _ => trivial)
        obtain ⟨n2, hn2⟩ : ∃ n2, q2.length = n2 := ⟨_, rfl⟩
        rw [hn2] at HO hc3 hl2 ⊢
        have HN2 := Lib.hid hn2
        clear hn2
        by_cases h8 : i < 8
        · have hc8 : i = 0 ∨ i = 1 ∨ i = 2 ∨ i = 3 ∨ i = 4 ∨ i = 5 ∨ i = 6 ∨ i = 7 := by omega
          clear hq2
          obtain ⟨mb, hmb⟩ : ∃ mb, [lb n i] = mb := ⟨_, rfl⟩
          have HML := Lib.hid (show mb.length = 1 by rw [← hmb]; rfl)
          have HMB := Lib.hid (show ∀ z : Int, z = ((lb n i).toNat : Int) → [Value.int .u8 z] = mb.map Nu.vb from fun z hz => by rw [← hmb, hz]; rfl)
          rw [hmb] at HE
          clear hmb
          rcases hc8 with rfl | rfl | rfl | rfl | rfl | rfl | rfl | rfl
          all_goals
            first
              | (have hz7 : z = 7 := by omega
                 subst hz7)
              | (have hz7 : z = 6 := by omega
                 subst hz7)
              | (have hz7 : z = 5 := by omega
                 subst hz7)
              | (have hz7 : z = 4 := by omega
                 subst hz7)
              | (have hz7 : z = 3 := by omega
                 subst hz7)
              | (have hz7 : z = 2 := by omega
                 subst hz7)
              | (have hz7 : z = 1 := by omega
                 subst hz7)
              | (have hz7 : z = 0 := by omega
                 subst hz7)
            clear hz
            go_wp2_with (at_builtin; refine wpList_push rfl _ _ rfl w.heap.size _ q2 mb n2 1 rfl HO.out HN2.out HML.out rfl (by omega) hbz ?hz ?_)
            case hz => exact HMB.out _ (by first | exact lb_lt n 0 72057594037927936 rfl (by decide) (by omega) | exact lb_lt n 1 281474976710656 rfl (by decide) (by omega) | exact lb_lt n 2 1099511627776 rfl (by decide) (by omega) | exact lb_lt n 3 4294967296 rfl (by decide) (by omega) | exact lb_lt n 4 16777216 rfl (by decide) (by omega) | exact lb_lt n 5 65536 rfl (by decide) (by omega) | exact lb_int n 0 72057594037927936 rfl (by decide) | exact lb_int n 1 281474976710656 rfl (by decide) | exact lb_int n 2 1099511627776 rfl (by decide) | exact lb_int n 3 4294967296 rfl (by decide) | exact lb_int n 4 16777216 rfl (by decide) | exact lb_int n 5 65536 rfl (by decide) | exact lb_int n 6 256 rfl (by decide) | exact lb_7 n | (have := lb_7 n; simpa using this))
            intro v' w2 hown1 hb1
            have HO2 := Lib.hid hown1
            have HB2 := Lib.hid (hb1 _ HB.out)
            clear hown1 hb1
            rw [← HE.out] at HO2
            go_wp2
            exact ⟨⟨_, _, by decide, by decide, rfl, HO2, HB2⟩, by simp [intOf]⟩
        · have hi8 : i = 8 := by omega
          subst hi8
          obtain rfl : z = -1 := by omega
          rw [endB_8] at hq2
          subst hq2
          go_wp2_with fail
          go_ret
          exact ⟨_, rfl, HO.out, HB.out⟩
    · have hne : ((n1 : Int) % 64 != 56) = true := by rw [bne_iff_ne]; omega
      have HH := Lib.hid h56
      clear h56 hlp
      have hn9 : n1 ≤ 2000000 := by have := HLP.out; omega
      go_wp2_with (at_builtin; refine wpList_push rfl _ _ rfl w.heap.size _ q [0] n1 1 rfl HO.out HN1.out rfl rfl (by omega) hbz rfl ?_)
      intro v' w2 hown1 hb1
      have HO2 := Lib.hid hown1
      have HB2 := Lib.hid (hb1 _ HB.out)
      clear hown1 hb1
      rw [← HQ.out, List.append_assoc, zeros_snoc] at HO2
      obtain ⟨A', c', rfl, hc', -⟩ := BOwn.rd (F := fun b => True) HO2.out (fun _ _ => trivial)
      rw [len_push p n (k + 1) HN.out, show n + (1 + (k + 1)) = n1 + 1 by rw [HLP.out]; omega] at HO2 ⊢
      go_wp2
      exact ⟨⟨k + 1, by omega, HO2, HB2⟩, by show n + 100 - (n1 + 1) < n + 100 - n1; have := HLP.out; omega⟩
end Go.Proofs.YthgjhfcafdepcaaGreatDoor.Sh

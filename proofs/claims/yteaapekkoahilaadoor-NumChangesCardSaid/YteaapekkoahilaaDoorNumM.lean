/-
  The laws of layer 1, walked: NumChanges.
-/
import Derived.Test.YteaapekkoahilaaDoorNumJ
import Derived.Deep.AppendLies
namespace Go.Proofs.YteaapekkoahilaaDoor.Nu
open Go.RowKit Go.Proofs.YteaapekkoahilaaDoor.B Go.Proofs.YteaapekkoahilaaDoor.S01
set_option linter.unusedVariables false
set_option linter.unusedSimpArgs false

/-! The plain law: a byte that is changed changes the sum. -/
theorem xor_back {a b p : Nat} (h : a ^^^ p = b ^^^ p) : a = b := by
  have := congrArg (· ^^^ p) h
  simpa [Nat.xor_assoc] using this
theorem top_bit {a : Nat} (h : a < 2147483648) : a.testBit 31 = false := Nat.testBit_lt_two_pow (by simpa using h)
theorem stepN_inj {x y : Nat} (hx : x < 4294967296) (hy : y < 4294967296) (h : stepN x = stepN y) : x = y := by
  have tx := top_bit (a := x / 2) (by omega)
  have ty := top_bit (a := y / 2) (by omega)
  have tp : (3988292384 : Nat).testBit 31 = true := by decide
  unfold stepN at h
  split at h <;> split at h
  · have := xor_back h; omega
  · have := congrArg (·.testBit 31) h
    simp only [Nat.testBit_xor, tx, ty, tp] at this
    exact absurd this (by decide)
  · have := congrArg (·.testBit 31) h
    simp only [Nat.testBit_xor, tx, ty, tp] at this
    exact absurd this (by decide)
  · omega
theorem stepsN_inj : ∀ (k : Nat) {x y : Nat}, x < 4294967296 → y < 4294967296 → stepsN k x = stepsN k y → x = y
  | 0, _, _, _, _, h => h
  | k + 1, _, _, hx, hy, h => stepN_inj hx hy (stepsN_inj k (stepN_lt hx) (stepN_lt hy) h)
theorem u8_lt32 (c : UInt8) : c.toNat < 4294967296 := by have := c.toNat_lt; omega
theorem byteN_inj {x y : Nat} {c : UInt8} (hx : x < 4294967296) (hy : y < 4294967296) (h : byteN x c = byteN y c) : x = y :=
  xor_back (stepsN_inj 8 (xor_lt hx (u8_lt32 c)) (xor_lt hy (u8_lt32 c)) h)
theorem byteN_inj2 {x : Nat} {c d : UInt8} (hx : x < 4294967296) (h : byteN x c = byteN x d) : c = d := by
  have e := stepsN_inj 8 (xor_lt hx (u8_lt32 c)) (xor_lt hx (u8_lt32 d)) h
  rw [Nat.xor_comm x, Nat.xor_comm x] at e
  exact UInt8.toNat_inj.1 (xor_back e)
theorem fold_inj : ∀ (l : List UInt8) {x y : Nat}, x < 4294967296 → y < 4294967296 → l.foldl byteN x = l.foldl byteN y → x = y
  | [], _, _, _, _, h => h
  | c :: l, _, _, hx, hy, h => byteN_inj hx hy (fold_inj l (byteN_lt hx c) (byteN_lt hy c) h)
theorem crc_set : ∀ (l : List UInt8) (k : Nat) (c : UInt8) (x : Nat), x < 4294967296 → k < l.length → l.getD k 0 ≠ c → (l.set k c).foldl byteN x ≠ l.foldl byteN x
  | [], k, c, x, _, hk, _ => by simp at hk
  | a :: l, 0, c, x, hx, _, hne => fun h => hne (by
      have := byteN_inj2 hx (fold_inj l (byteN_lt hx c) (byteN_lt hx a) h)
      simpa using this.symm)
  | a :: l, k + 1, c, x, hx, hk, hne => crc_set l k c (byteN x a) (byteN_lt hx a) (by simpa using hk) (by simpa using hne)
theorem crcF_set (l : List UInt8) (k : Nat) (c : UInt8) (hk : k < l.length) (hne : l.getD k 0 ≠ c) : crcF (l.set k c) ≠ crcF l := fun h =>
  crc_set l k c 4294967295 (by omega) hk hne (xor_back h)

theorem own_readN {w : World} {base n c : Nat} {A : Option Addr} {l : List UInt8} (h : BOwn w base (.slice A n c) l) (hn : l.length = n) (hs : n ≤ 9223372036854775807) : BRead w A n l := by
  obtain ⟨A', c', e, hr, _⟩ := own_read h (by omega)
  simp only [Value.slice.injEq] at e
  obtain ⟨rfl, _, _⟩ := e
  rw [hn] at hr
  exact hr
set_option maxRecDepth 100000 in
set_option maxHeartbeats 1000000 in
theorem NumChanges_calls (A : Option Addr) (n c : Nat) (l : List UInt8) (at_ to_ : Int) (w : World) (hr : BRead w A n l) (t0 : 0 ≤ to_) (t1 : to_ ≤ 255) (ht : Tab w) :
    Calls Tryd.prog 7 #[.slice A n c, .int .i64 at_, .int .u8 to_] w (TruePost w) := by
  have HR := Lib.hid hr; clear hr
  have HT := Lib.hid ht; clear ht
  by_cases h1 : (n : Int) > 2000
  · go_enter Tryd.func7, Tryd.ntmps7
    go_wp2_with fail
    refine (awake_calls w HT.out).mono ?_
    rintro e w1 ⟨rfl, hb1⟩
    go_wp2
    go_ret
    exact ⟨rfl, hb1⟩
  by_cases h2 : at_ < 0
  · go_enter Tryd.func7, Tryd.ntmps7
    go_wp2_with fail
    refine (awake_calls w HT.out).mono ?_
    rintro e w1 ⟨rfl, hb1⟩
    go_wp2
    go_ret
    exact ⟨rfl, hb1⟩
  by_cases h3 : at_ ≥ n
  · go_enter Tryd.func7, Tryd.ntmps7
    go_wp2_with fail
    refine (awake_calls w HT.out).mono ?_
    rintro e w1 ⟨rfl, hb1⟩
    go_wp2
    go_ret
    exact ⟨rfl, hb1⟩
  obtain ⟨k, rfl⟩ := Int.eq_ofNat_of_zero_le (show 0 ≤ at_ by omega)
  have hk : k < n := by omega
  by_cases h4 : by' l k = to_
  · subst h4
    go_enter Tryd.func7, Tryd.ntmps7
    go_wp2_with fail
    refine (awake_calls w HT.out).mono ?_
    rintro e w1 ⟨rfl, hb1⟩
    obtain ⟨ad, rfl, hcell⟩ := (HR.out.below hb1).at_ k hk
    go_wp2
    go_ret
    exact ⟨rfl, hb1⟩
  · obtain ⟨i0, hi, hz0, hz1, hz2⟩ := info_parts info_u8
    have HI := Lib.hid hi; clear hi
    have HZ0 := Lib.hid hz0; clear hz0
    have HZ1 := Lib.hid hz1; clear hz1
    have HZ2 := Lib.hid hz2; clear hz2
    go_enter Tryd.func7, Tryd.ntmps7
    go_wp2_with fail
    refine (awake_calls w HT.out).mono ?_
    rintro e w1 ⟨rfl, hb1⟩
    obtain ⟨ad, rfl, hcell⟩ := (HR.out.below hb1).at_ k hk
    have b1 : decide (2000 < (n : Int)) = false := by simp; omega
    have b2 : decide ((k : Int) < 0) = false := by simp
    have b3 : decide (n ≤ k) = false := by simp; omega
    have b4 : (by' l k == to_) = false := by simpa using h4
    have HC : Hid (∀ i, i < n → w1.cell? (ad.add i) = some (.int .u8 (by' l i))) := Lib.hid (fun i hi => by
      obtain ⟨ad', e, hc⟩ := (HR.out.below hb1).at_ i hi
      cases e; exact hc)
    have HL := Lib.hid HR.out.1
    go_wp2_with (at_builtin; refine wpList_append_own _ rfl _ _ 22 rfl w.heap.size 5 i0 (.int .u8 0) 1 1 Tryd.underlying22 HI.out HZ0.out HZ1.out HZ2.out rfl (by decide) _ _ _ rfl (World.ownsRow_nil _ _ _ _) ad n c (l.map vb) rfl ?d0 ?d1 ?d2 ?d3 ?d4 ?d5 ?_)
    case d0 => simp [HL.out]
    case d1 => first | exact news_of HL.out (fun i hi => HC.out i hi) | exact fun j a ha => news_of HL.out (fun i hi => HC.out i hi) j (vb a) (by simp [ha])
    case d2 => first | exact vb_one | exact fun a _ => rfl
    case d3 => unfold maxLen; omega
    case d4 => omega
    case d5 => exact hb1.size
    intro v w2 hown1 hgrow1 _
    have hb2 : Below w.heap.size w w2 := hb1.grown hgrow1 hb1.size (fun b hb => by simp [Value.ownBlock] at hb)
    obtain ⟨g, cap, rfl, hbg, hg2⟩ := hown1.form (by omega)
    have hcg := hown1.cellAt k (by omega)
    have hfg := hown1.frozenAt k
    obtain ⟨hst, hgr⟩ := hown1.stored k (.int .u8 to_)
    have hcg2 : w2.cell? ⟨g, k, none⟩ = some (.int .u8 (by' l k)) := by
      rw [hcg]
      have hkl : k < l.length := by rw [HL.out]; exact hk
      simp [hkl, vb, by', List.getD_eq_getElem?_getD]
    have hb3 : Below w.heap.size w (w2.setCell ⟨g, k, none⟩ (.int .u8 to_)) := hb2.grown hgr hb2.size (fun b hb => by cases hb; exact hbg)
    have HS : Hid (BOwn (w2.setCell ⟨g, k, none⟩ (.int .u8 to_)) w.heap.size (.slice (some ⟨g, 0, none⟩) n cap) (l.set k (toB to_))) := Lib.hid (by
      unfold BOwn
      rw [List.length_set, List.map_set, HL.out, vb, toB_nat t0 t1]
      exact hst)
    have HB := Lib.hid hb3
    have hcr : ¬ (crcF l : Int) = (crcF (l.set k (toB to_)) : Int) := by
      intro h
      refine crcF_set l k (toB to_) (by rw [HL.out]; exact hk) ?_ (by omega)
      intro e
      apply h4
      unfold by'
      rw [e, toB_nat t0 t1]
    clear hst hgr hown1 hgrow1 hcg hb3 b1 b2 b3 b4
    go_wp2_with fail
    generalize w2.setCell ⟨g, k, none⟩ (.int .u8 to_) = w3 at *
    refine (Crc_calls (some ad) n c l w3 (HR.out.below HB.out)).mono ?_
    rintro e w4 ⟨rfl, rfl⟩
    go_wp2_with fail
    refine (Crc_calls (some ⟨g, 0, none⟩) n cap (l.set k (toB to_)) w3 (own_readN HS.out (by rw [List.length_set, HL.out]) (by omega))).mono ?_
    rintro e w4 ⟨rfl, rfl⟩
    have hcb : (((crcF l : Nat) : Int) != ((crcF (l.set k (toB to_)) : Nat) : Int)) = true := by simpa using hcr
    go_wp2
    go_ret
    exact ⟨rfl, HB.out⟩
end Go.Proofs.YteaapekkoahilaaDoor.Nu

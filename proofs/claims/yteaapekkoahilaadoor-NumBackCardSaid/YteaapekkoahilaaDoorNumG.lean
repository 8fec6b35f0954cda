/-
  Contracts of package num and of its reference: bytes as hexadecimal text.
-/
import Derived.Test.YteaapekkoahilaaDoorNumF
import Derived.Deep.RegionLaw
import Derived.Deep.AppendLies
import Derived.Lib.ItoaWalk
import Derived.Laws.BytesArg
namespace Go.Proofs.YteaapekkoahilaaDoor.Nu
open Go.RowKit Go.Proofs.YteaapekkoahilaaDoor.B Go.Proofs.YteaapekkoahilaaDoor.S01
set_option linter.unusedVariables false
set_option linter.unusedSimpArgs false

def hexT : ByteArray := ⟨#[48, 49, 50, 51, 52, 53, 54, 55, 56, 57, 97, 98, 99, 100, 101, 102]⟩
theorem idx_hex (z : Int) (i : Nat) (hz : z = (i : Int)) (hi : i < 16) (w : World) : (Instr.index 9 (.string ⟨#[48, 49, 50, 51, 52, 53, 54, 55, 56, 57, 97, 98, 99, 100, 101, 102]⟩) (.int .u8 z)).run Tryd.prog w = .ok (.int .u8 ((sgn i).toNat : Int)) w := by
  subst hz
  have e : hexT = ⟨#[48, 49, 50, 51, 52, 53, 54, 55, 56, 57, 97, 98, 99, 100, 101, 102]⟩ := rfl
  have hs : hexT.size = 16 := rfl
  rw [← e, run_index_string w 9 hexT .u8 _ rfl, dif_pos ⟨by omega, by rw [hs]; omega⟩]
  have e : ((i : Int)).toNat = i := by omega
  simp only [e]
  rw [Lib.getD_at hexT i (by rw [hs]; exact hi)]
  rfl
theorem and15 (z : Int) (h0 : 0 ≤ z) (h1 : z ≤ 255) : bits .and .u8 z 15 = z % 16 := by
  obtain ⟨a, rfl⟩ := Int.eq_ofNat_of_zero_le h0
  have h : ∀ p : Fin 256, bits .and .u8 (p.val : Int) 15 = (p.val : Int) % 16 := by decide +kernel
  exact h ⟨a, by omega⟩
theorem BOwn.add {w : World} {base : Nat} {v : Value} {l m : List UInt8} {n k : Nat} (h : w.ownsRow base 5 1 v (n + k) (l.map vb ++ m.map vb)) (hn : l.length = n) (hk : m.length = k) : BOwn w base v (l ++ m) := by
  subst hn; subst hk
  unfold BOwn
  rw [List.length_append, List.map_append]
  exact h
theorem own_conv {w : World} {base : Nat} {v : Value} {l : List UInt8} (h : BOwn w base v l) : (convert 22 9 v).run Tryd.prog w = .ok (.string ⟨l.toArray⟩) w := by
  rcases h.2 with ⟨rfl, h0⟩ | ⟨g, cap, cur, rfl, _⟩
  · have hl : l = [] := List.eq_nil_of_length_eq_zero (by simpa using h0)
    subst hl
    exact run_convert_bytes_nil w 22 5 Tryd.underlying22 Tryd.underlying5 _ _ 9 rfl
  · have hx := run_convert_bytes_arg (P := Tryd.prog) w 22 5 Tryd.underlying22 Tryd.underlying5 g 0 l.length cap (l.map fun b => (b.toNat : Int)) (by simp) (fun i hi => by
      have hc := World.ownsRow.cells h rfl i (.int .u8 ((l[i]).toNat : Int)) (by simp [List.getElem?_eq_getElem hi, vb])
      have hplain : (⟨g, 0, none⟩ : Addr).add i = ⟨g, 0 + i, none⟩ := by unfold Addr.add; split <;> simp_all
      rw [hplain] at hc
      rw [hc]
      simp [List.getD_eq_getElem?_getD, hi]) 9 rfl
    rw [hx]
    have e : strOfNums (l.map fun b => (b.toNat : Int)) = ⟨l.toArray⟩ := by
      unfold strOfNums
      simp [Function.comp_def]
    rw [e]
theorem cell_two_new (w : World) (x y : Value) (t : TypeId) : ∀ j u, [x, y][j]? = some u → (w.alloc (.cells #[x, y] t)).cell? ((⟨w.heap.size, 0, none⟩ : Addr).add j) = some u :=
  World.news_of_block (w := w.alloc (.cells #[x, y] t)) (cs := #[x, y]) (t := t) (fr := (0, 0)) (by simp [World.alloc, -World.alloc_eq])
theorem hexB_by (l : List UInt8) (k : Nat) : (hexB (l.getD k 0)).map vb = [.int .u8 ((sgn (by' l k / 16).toNat).toNat : Int), .int .u8 ((sgn (by' l k % 16).toNat).toNat : Int)] := by
  have e1 : (by' l k / 16).toNat = (l.getD k 0).toNat / 16 := by unfold by'; omega
  have e2 : (by' l k % 16).toNat = (l.getD k 0).toNat % 16 := by unfold by'; omega
  rw [e1, e2]; rfl
set_option maxRecDepth 100000 in
set_option maxHeartbeats 4000000 in
theorem Hex_calls (A : Option Addr) (n c : Nat) (l : List UInt8) (w : World) (hr : BRead w A n l) (hn : n ≤ 1099511627776) :
    Calls Tryd.prog 14 #[.slice A n c] w fun e w' => e = .returned (.string ⟨(hexF l).toArray⟩) ∧ Below w.heap.size w w' := by
  obtain ⟨i0, hi, hz0, hz1, hz2⟩ := info_parts info_u8
  obtain ⟨w1, hmk, hown, hg⟩ := run_make_own (P := Tryd.prog) w w.heap.size 22 5 i0 (.int .u8 0) 1 Tryd.underlying22 hi hz0 hz1 .i64 .i64 (2 * n) (by rw [hz2]; omega) (by unfold maxLen; omega) (Nat.le_refl _)
  have HI := Lib.hid hi; clear hi
  have HZ0 := Lib.hid hz0; clear hz0
  have HZ1 := Lib.hid hz1; clear hz1
  have HZ2 := Lib.hid hz2; clear hz2
  have e2 : ((2 * n : Nat) : Int) = 2 * (n : Int) := by omega
  rw [e2] at hmk
  clear e2
  have hb1 : Below w.heap.size w w1 := (Below.refl _ _).grown hg (Nat.le_refl _) (fun b hb => by cases hb)
  have HRW := Lib.hid hr
  have HO := Lib.hid (show BOwn w1 w.heap.size (.slice (some ⟨w.heap.size, 0, none⟩) 0 (2 * n)) (hexF (l.take 0)) from hown)
  clear hown hr hg
  go_enter Tryd.func14, Tryd.ntmps14
  go_wp2
  go_loopw [3, 12] (fun v3 v12 wr => ∃ k : Nat, k ≤ n ∧ v12 = .int .i64 k ∧ BOwn wr w.heap.size v3 (hexF (l.take k)) ∧ Below w.heap.size w wr) (fun _ v12 _ => n - (intOf v12).toNat)
  case atStart => exact ⟨0, Nat.zero_le _, rfl, HO.out, hb1⟩
  case round =>
    clear hmk HO
    obtain ⟨k, hk, rfl, hown, hbel⟩ := hrel
    have HR := Lib.hid (HRW.out.below hbel)
    have hbz := hbel.size
    by_cases hkn : k < n
    · obtain ⟨ad, rfl, hcell⟩ := HR.out.at_ k hkn
      obtain ⟨b0, b1⟩ := by_range l k
      have q0 : 0 ≤ by' l k / 16 := by omega
      have q1 : by' l k / 16 < 16 := by omega
      have HL2 := Lib.hid (show (hexF (l.take k)).length = 2 * k by rw [hexF_len, List.length_take, HR.out.1]; omega)
      have HLn := Lib.hid HR.out.1
      have HO := Lib.hid (BOwn.row hown HL2.out); clear hown
      have i1 := idx_hex (by' l k / 16) (by' l k / 16).toNat (by omega) (by omega)
      have i2 := idx_hex (by' l k % 16) (by' l k % 16).toNat (by omega) (by omega)
      have i3 := and15 (by' l k) b0 b1
      go_wp2
      go_region_law ((refine step_append_lies _ (by rfl) (.tmp 16) (.tmp 23) 22 (by rfl) w.heap.size 5 i0 (.int .u8 0) 1 1 Tryd.underlying22 HI.out HZ0.out HZ1.out HZ2.out rfl (by decide) u3 (2 * k) ((hexF (l.take k)).map vb) (by simp [Act.eval, Act.put]) (HO.out.drew.alloc _) ⟨wr.heap.size, 0, none⟩ 2 2 [.int .u8 ((sgn (by' l k / 16).toNat).toNat : Int), .int .u8 ((sgn (by' l k % 16).toNat).toNat : Int)] (by simp [Act.eval, Act.put]) (by rfl) (cell_two_new _ _ _ _) (by intro u hu; simp at hu; rcases hu with rfl | rfl <;> rfl) (by decide) (by unfold maxLen; omega) (by omega) (by simp; omega) _ (by rfl) ?_; intro g cap w3 hown1 hgrow1 hat hlt))
      all_goals
        have hbel2 : Below w.heap.size w wr.drew := below_drewN hbel 1
        have hown2 := Lib.hid (BOwn.add (m := hexB (l.getD k 0)) (by rw [hexB_by]; exact hown1) (HL2.out) rfl)
        have hb3 : Below w.heap.size w w3 := ((hbel2.alloc hbel2.size _).grown hgrow1 (by simp; omega) (fun b hb => own_base' HO.out b hb))
        clear hown1 hgrow1
        go_wp2
        exact ⟨⟨k + 1, by omega, by go_num, by rw [hexF_take _ _ (by rw [HLn.out]; exact hkn)]; exact hown2.out, hb3⟩, by simp [intOf]; omega⟩
    · have hc := own_conv hown
      have e : hexF (l.take k) = hexF l := by rw [List.take_of_length_le (by rw [HR.out.1]; omega)]
      rw [e] at hc
      go_wp2
      go_ret
      exact ⟨rfl, hbel⟩
end Go.Proofs.YteaapekkoahilaaDoor.Nu

/-
  HTTP, the document's: a line of the head, walked.
-/
import Derived.Test.YtomancadpdccaaaGreatDoorHtH
import Derived.Laws.BytesArg
namespace Go.Proofs.YtomancadpdccaaaGreatDoor.Ht
open Go.RowKit Go.Proofs.YtomancadpdccaaaGreatDoor.B
open Go.Proofs.YtomancadpdccaaaGreatDoor.M hiding Bs
open Go.Proofs.YtomancadpdccaaaGreatDoor.C (QRow Turn)
set_option linter.unusedVariables false
set_option linter.unusedSimpArgs false

theorem keepB' {B : Nat} {w W w1 : World} {b : Nat} (h : Below B w W) (hb : Below b W w1) (hB : B ≤ b) : Below B w w1 :=
  h.trans ⟨hb.os, hb.tape, hb.output, hb.size, fun i hi => hb.block i (by omega)⟩
theorem below_turn {w a b : World} {sb : Nat} (h : Below w.heap.size w a) (hT : Turn (fun k => k = sb) a b) (hs : w.heap.size ≤ sb) : Below w.heap.size w b := h.trans (hT.below h.size (fun k hk e => by omega))
theorem set2_turn (wx : World) (vb : Nat) (y0 y1 : Value) : Turn (fun k => k = vb) wx ((wx.setCell ⟨vb, 0, none⟩ y0).setCell ⟨vb, 1, none⟩ y1) := turn_then (Turn.setCell _ _ _ rfl) (Turn.setCell _ _ _ rfl)
set_option maxRecDepth 100000 in
theorem conv_arg2 {w : World} {A : Option Addr} {n c : Nat} {l : List UInt8} (h : Nu.BRead w A n l) (hA : A = none → n = 0) : (convert 22 9 (.slice A n c)).run Tryz.prog w = .ok (.string ⟨l.toArray⟩) w := by
  cases A with
  | none =>
    obtain rfl := hA rfl
    have hl : l = [] := List.eq_nil_of_length_eq_zero h.1
    subst hl
    exact run_convert_bytes_nil w 22 5 Tryz.underlying22 Tryz.underlying5 _ _ 9 rfl
  | some ad =>
    have hcells : ∀ i, i < n → w.cell? (ad.add i) = some (.int .u8 (S01.by' l i)) := fun i hi => by
      obtain ⟨ad', e, hc⟩ := h.at_ i hi
      cases e; exact hc
    have hl : (loadCells ad n).run Tryz.prog w = .ok (l.map Nu.vb).toArray w := by
      have := run_loadCells_list (P := Tryz.prog) w ad (l.map Nu.vb) (Nu.news_of h.1 hcells)
      rw [List.length_map, h.1] at this
      exact this
    rw [run_convert_bytes_string w 22 9 5 _ n c Tryz.underlying22 Tryz.underlying5 rfl]
    have hl2 : (loadCells ad n).run Tryz.prog w = .ok ((l.map fun b => (b.toNat : Int)).map (Value.int .u8)).toArray w := by
      rw [hl, List.map_map]; rfl
    rw [run_bytesToString w _ n c _ hl2, foldl_push_bytes]
    simp [ByteArray.empty, ByteArray.emptyWithCapacity, List.map_map, Function.comp_def]
    rfl
set_option maxRecDepth 100000 in
theorem conv_rd {w : World} {A : Option Addr} {n c : Nat} {l : Bs} (h : Nu.BRead w A n l) : (convert 22 9 (.slice A n c)).run Tryz.prog w = .ok (vs l) w := conv_arg2 h (fun hA => by
  subst hA
  by_cases h0 : 0 < n
  · obtain ⟨ad, h1, _⟩ := h.2.2 h0
    cases h1
  · omega)
def HdRet (w : World) (r : Option Hd) (e : Ending) (w' : World) : Prop := Below w.heap.size w w' ∧ match r with
  | none => e = .returned (.tuple #[.agg #[vs [], vs []], .bool false])
  | some h => e = .returned (.tuple #[.agg #[vs h.name, vs h.value], .bool true])
theorem head_get (s : Bs) (h : 0 < s.length) : s.head? = some (s.getD 0 0) := by
  cases s with
  | nil => simp at h
  | cons c t => rfl
theorem last_get (s : Bs) {n : Nat} (h : s.length = n + 1) : s.getLast? = some (s.getD n 0) ∧ s = s.take n ++ [s.getD n 0] := by
  have hn : n < s.length := by omega
  have e : s.getD n 0 = s[n] := by rw [List.getD_eq_getElem?_getD, List.getElem?_eq_getElem hn]; rfl
  refine ⟨?_, ?_⟩
  · rw [List.getLast?_eq_getElem?, h, Nat.add_sub_cancel, List.getElem?_eq_getElem hn, e]
  · rw [e]
    have := List.take_append_drop n s
    conv => lhs; rw [← this]
    rw [List.drop_eq_getElem_cons hn, List.drop_eq_nil_of_le (by omega)]
theorem cons_get (s : Bs) (h : 0 < s.length) : s = s.getD 0 0 :: s.tail := by
  cases s with
  | nil => simp at h
  | cons c t => rfl
theorem take_head (s : Bs) {n : Nat} (hn : n < s.length) (c : UInt8) (h : (s.take n).head? = some c) : s.head? = some c := by
  cases s with
  | nil => simp at hn
  | cons d t =>
    cases n with
    | zero => simp at h
    | succ n => simpa using h
set_option maxRecDepth 100000 in
set_option maxHeartbeats 8000000 in
theorem dhead_calls (s : Bs) (hs : s.length ≤ 1000000) (w : World) : Calls Tryz.prog 28 #[vs s] w (HdRet w (hdF s)) := by
  have h1 := sz s
  obtain ⟨w0, hw0⟩ : ∃ w0, w.alloc (.cells #[vs [], vs []] 50) = w0 := ⟨_, rfl⟩
  have hl0 : w.heap.size < w0.heap.size := by rw [← hw0]; simp
  have HR0 := Lib.hid (show w0.heap[w.heap.size]? = some (.cells #[vs [], vs []] 50 (0, 0)) by rw [← hw0]; exact heap_alloc_new w _)
  have HB0 := Lib.hid (show Below w.heap.size w w0 by rw [← hw0]; exact (Below.refl _ w).alloc (Nat.le_refl _) _)
  have hw0' : w.alloc (.cells #[.string ⟨#[]⟩, .string ⟨#[]⟩] 50) = w0 := hw0
  clear hw0
  have HNR := Lib.hid (fun (V : World) (hb : Below w0.heap.size w0 V) => (hb.block w.heap.size hl0).trans HR0.out)
  have HBR := Lib.hid (Below.refl w0.heap.size w0)
  have HF := Lib.hid (fun W => find_calls s [58] (by omega) (by simp) W)
  go_enter Tryz.func28, Tryz.ntmps28
  go_wp2_with fail
  refine (HF.out _).mono ?_
  rintro e w1 ⟨rfl, rfl⟩
  have hge := Lib.index_ge s [58]
  by_cases hk1 : Lib.index s [58] < 1
  · have HP := Lib.hid (hd_short hk1)
    obtain ⟨ix, hix⟩ : ∃ ix, Lib.index s [58] = ix := ⟨_, rfl⟩
    rw [hix] at hk1 ⊢
    clear hix HF hge
    obtain ⟨r0, r1, f0, f1⟩ := two_of (HNR.out (w1) HBR.out)
    go_wp2_with fail
    have hh5 := set2 (HNR.out (w1) HBR.out) (.string ⟨#[]⟩) (.string ⟨#[]⟩)
    have hb5 := below_turn (keepB' HB0.out HBR.out HB0.out.size) (set2_turn (w1) w.heap.size (.string ⟨#[]⟩) (.string ⟨#[]⟩)) (Nat.le_refl _)
    generalize hW5 : ((w1).setCell ⟨w.heap.size, 0, none⟩ (.string ⟨#[]⟩)).setCell ⟨w.heap.size, 1, none⟩ (.string ⟨#[]⟩) = W5 at hh5 hb5 ⊢
    obtain ⟨m0, m1, -⟩ := two_of hh5
    exact bodyPost_ret (v := .tuple #[.agg #[.string ⟨#[]⟩, .string ⟨#[]⟩], .bool false]) (by simp [results, Tryz.results28, go_sem, m0, m1]) rfl (by rw [HP.out]; exact ⟨hb5, rfl⟩)
  · obtain ⟨k, hk⟩ : ∃ k : Nat, Lib.index s [58] = k := ⟨(Lib.index s [58]).toNat, by omega⟩
    have hkp : 1 ≤ k := by omega
    have hks := idx_room hk
    have hks : k + 1 ≤ s.length := hks
    have HP := Lib.hid (hd_at hk hkp)
    rw [hk] at hk1 ⊢
    clear hk hge HF
    have hx1 := ext_to s k
    have hx2 := ext_drop s (k + 1) s.length rfl
    have hkk : (k : Int) ≤ (s.length : Int) := by omega
    have hkk2 : (k : Int) + 1 ≤ (s.length : Int) := by omega
    have hkw : IntKind.i64.wrap ((k : Int) + 1) = (k : Int) + 1 := by rw [IntKind.wrap_i64]; omega
    have hk1' : ¬ (k : Int) < 1 := hk1
    have hk0 : (0 : Int) ≤ (k : Int) := by omega
    have hNl : (s.take k).length = k := by rw [List.length_take]; omega
    have hVl : (s.drop (k + 1)).length ≤ 1000000 := by rw [List.length_drop]; omega
    obtain ⟨N, hN⟩ : ∃ N, s.take k = N := ⟨_, rfl⟩
    obtain ⟨V, hV⟩ : ∃ V, s.drop (k + 1) = V := ⟨_, rfl⟩
    rw [hN] at hx1 hNl HP
    rw [hV] at hx2 hVl HP
    clear hN hV
    obtain ⟨c, wc, hcv, hkc, hrow, hbc⟩ := conv_row w1 N
    rw [hNl] at hcv hkc
    have HROW := Lib.hid (show CRow wc w1.heap.size (lowT N 0) from hrow)
    have HBC := Lib.hid hbc
    clear hrow hbc
    go_wp2_with fail
    obtain ⟨wz, hwz⟩ : ∃ wz, wz = w1 := ⟨_, rfl⟩
    subst hwz
    go_loopw [6, 7] (fun v6 v7 wr => ∃ i : Nat, i ≤ k ∧ v6 = .int .i64 i ∧ Hid ((N.take i).all named = true) ∧ Hid (CRow wr wz.heap.size (lowT N i)) ∧ Hid (Below wz.heap.size wz wr)) (fun v6 _ _ => k - (intOf v6).toNat)
    case atStart => exact ⟨0, Nat.zero_le _, rfl, Lib.hid rfl, HROW, HBC⟩
    case round =>
      clear HROW HBC
      obtain ⟨i, hik, rfl, HA, HR, HB⟩ := hrel
      have i0 : (0 : Int) ≤ (i : Int) := by omega
      have hsl := HR.out.lt
      by_cases hlt : i < k
      · have hlt' : (i : Int) < (k : Int) := by omega
        have hltN : i < N.length := by omega
        have hc := HR.out.cell (i := i) (by rw [lowT_len]; exact hltN)
        have hf := HR.out.frz (i := i) (by rw [lowT_len]; exact hltN)
        rw [lowT_get N hltN] at hc
        have HT := Lib.hid (all_take named N hltN)
        have HN := Lib.hid (fun h => all_not named N hltN h)
        have HST := Lib.hid (HR.out.set (i := i) (by rw [lowT_len]; exact hltN) (lowB (N.getD i 0)))
        rw [lowT_set N hltN] at HST
        have HKP := Lib.hid (fun h => lowT_keep N hltN h)
        obtain ⟨b, hbx⟩ : ∃ b, N.getD i 0 = b := ⟨_, rfl⟩
        rw [hbx] at hc HT HN HST HKP
        clear hbx
        have hlg := low_great b
        cases hgr : great b with
        | true =>
          have HT2 := Lib.hid (show (N.take (i + 1)).all named = true by rw [HT.out, HA.out, great_named b hgr]; rfl)
          rw [hgr, if_pos rfl] at hlg
          have hg1 : 65 ≤ b.toNat ∧ b.toNat ≤ 90 := by
            unfold great at hgr
            simpa using hgr
          have hadd : ((b + 32).toNat : Int) = (b.toNat : Int) + 32 := by rw [UInt8.toNat_add]; simp; omega
          rw [hlg] at HST
          have HST2 := Lib.hid (show CRow (wr.setCell ⟨wz.heap.size, i, none⟩ (.int .u8 ((b.toNat : Int) + 32))) wz.heap.size (lowT N (i + 1)) by rw [← hadd]; exact HST.out)
          have HB2 := Lib.hid (show Below wz.heap.size wz (wr.setCell ⟨wz.heap.size, i, none⟩ (.int .u8 ((b.toNat : Int) + 32))) from below_turn HB.out (Turn.setCell (fp := fun j => j = wz.heap.size) wr ⟨wz.heap.size, i, none⟩ _ rfl) (Nat.le_refl _))
          clear HST HKP HN HT hlg hgr hadd
          obtain ⟨x, hx⟩ : ∃ x, b.toNat = x := ⟨_, rfl⟩
          have hcx : wr.cell? ⟨wz.heap.size, i, none⟩ = some (.int .u8 (x : Int)) := by rw [← hx]; exact hc
          clear hc
          rw [hx] at hg1 HST2 HB2
          clear hx
          have g1 : (65 : Int) ≤ (x : Int) := by omega
          have g2 : (x : Int) ≤ 90 := by omega
          have gw : IntKind.u8.wrap ((x : Int) + 32) = (x : Int) + 32 := by rw [IntKind.wrap_u8]; omega
          go_wp2
          exact ⟨⟨i + 1, by omega, by go_num, HT2, HST2, HB2⟩, by simp [intOf]; omega⟩
        | false =>
          rw [hgr, if_neg (by simp)] at hlg
          have hkeep := HKP.out hlg
          have HR2 := Lib.hid (show CRow wr wz.heap.size (lowT N (i + 1)) by rw [← hkeep]; exact HR.out)
          have hnr := named_rest b hgr
          have hgn : ¬ (65 ≤ b.toNat ∧ b.toNat ≤ 90) := by
            unfold great at hgr
            simpa using hgr
          clear HST HKP hlg hgr hkeep
          obtain ⟨nb, hnb⟩ : ∃ nb, named b = nb := ⟨_, rfl⟩
          rw [hnb] at hnr HT HN
          obtain ⟨x, hx⟩ : ∃ x, b.toNat = x := ⟨_, rfl⟩
          have hcx : wr.cell? ⟨wz.heap.size, i, none⟩ = some (.int .u8 (x : Int)) := by rw [← hx]; exact hc
          clear hc
          rw [hx] at hgn hnr
          clear hx hnb
          have HNO := Lib.hid (show nb = false → hdF s = none from fun h => by rw [HP.out, HN.out h]; rfl)
          have HYS := Lib.hid (show nb = true → (N.take (i + 1)).all named = true from fun h => by rw [HT.out, HA.out, h]; rfl)
          have HXX := Lib.hid hnr
          have HGN := Lib.hid hgn
          clear hnr HT HN hgn
          have hxc : (x < 45) ∨ (x = 45) ∨ (45 < x ∧ x < 48) ∨ (48 ≤ x ∧ x ≤ 57) ∨ (57 < x ∧ x < 65) ∨ (90 < x ∧ x < 97) ∨ (97 ≤ x ∧ x ≤ 122) ∨ 122 < x := by have := HGN.out; omega
          rcases hxc with hxc | hxc | hxc | hxc | hxc | hxc | hxc | hxc
          · have q0 : ¬ (65 : Int) ≤ (x : Int) := by omega
            have q1 : (x : Int) < 97 := by omega
            have q2 : (x : Int) < 48 := by omega
            have hne : ((x : Int) != 45) = true := by rw [bne_iff_ne]; omega
            have HNN := Lib.hid (HNO.out (by rw [HXX.out]; simp; omega))
            have HBw := Lib.hid HB.out
            obtain ⟨r0, r1, f0, f1⟩ := two_of (HNR.out (wr) HBw.out)
            go_wp2_with fail
            have hh5 := set2 (HNR.out (wr) HBw.out) (.string ⟨#[]⟩) (.string ⟨#[]⟩)
            have hb5 := below_turn (keepB' HB0.out HBw.out HB0.out.size) (set2_turn (wr) w.heap.size (.string ⟨#[]⟩) (.string ⟨#[]⟩)) (Nat.le_refl _)
            generalize hW5 : ((wr).setCell ⟨w.heap.size, 0, none⟩ (.string ⟨#[]⟩)).setCell ⟨w.heap.size, 1, none⟩ (.string ⟨#[]⟩) = W5 at hh5 hb5 ⊢
            obtain ⟨m0, m1, -⟩ := two_of hh5
            exact bodyPost_ret (v := .tuple #[.agg #[.string ⟨#[]⟩, .string ⟨#[]⟩], .bool false]) (by simp [results, Tryz.results28, go_sem, m0, m1]) rfl (by rw [HNN.out]; exact ⟨hb5, rfl⟩)
          · subst hxc
            have HT2 := Lib.hid (HYS.out (by rw [HXX.out]; rfl))
            go_wp2
            exact ⟨⟨i + 1, by omega, by go_num, HT2, HR2, HB⟩, by simp [intOf]; omega⟩
          · have q0 : ¬ (65 : Int) ≤ (x : Int) := by omega
            have q1 : (x : Int) < 97 := by omega
            have q2 : (x : Int) < 48 := by omega
            have hne : ((x : Int) != 45) = true := by rw [bne_iff_ne]; omega
            have HNN := Lib.hid (HNO.out (by rw [HXX.out]; simp; omega))
            have HBw := Lib.hid HB.out
            obtain ⟨r0, r1, f0, f1⟩ := two_of (HNR.out (wr) HBw.out)
            go_wp2_with fail
            have hh5 := set2 (HNR.out (wr) HBw.out) (.string ⟨#[]⟩) (.string ⟨#[]⟩)
            have hb5 := below_turn (keepB' HB0.out HBw.out HB0.out.size) (set2_turn (wr) w.heap.size (.string ⟨#[]⟩) (.string ⟨#[]⟩)) (Nat.le_refl _)
            generalize hW5 : ((wr).setCell ⟨w.heap.size, 0, none⟩ (.string ⟨#[]⟩)).setCell ⟨w.heap.size, 1, none⟩ (.string ⟨#[]⟩) = W5 at hh5 hb5 ⊢
            obtain ⟨m0, m1, -⟩ := two_of hh5
            exact bodyPost_ret (v := .tuple #[.agg #[.string ⟨#[]⟩, .string ⟨#[]⟩], .bool false]) (by simp [results, Tryz.results28, go_sem, m0, m1]) rfl (by rw [HNN.out]; exact ⟨hb5, rfl⟩)
          · have q0 : ¬ (65 : Int) ≤ (x : Int) := by omega
            have q1 : (x : Int) < 97 := by omega
            have q2 : ¬ (x : Int) < 48 := by omega
            have q3 : ¬ (57 : Int) < (x : Int) := by omega
            have hne : ((x : Int) != 45) = true := by rw [bne_iff_ne]; omega
            have HT2 := Lib.hid (HYS.out (by rw [HXX.out]; simp; omega))
            go_wp2
            exact ⟨⟨i + 1, by omega, by go_num, HT2, HR2, HB⟩, by simp [intOf]; omega⟩
          · have q0 : ¬ (65 : Int) ≤ (x : Int) := by omega
            have q1 : (x : Int) < 97 := by omega
            have q2 : ¬ (x : Int) < 48 := by omega
            have q3 : (57 : Int) < (x : Int) := by omega
            have hne : ((x : Int) != 45) = true := by rw [bne_iff_ne]; omega
            have HNN := Lib.hid (HNO.out (by rw [HXX.out]; simp; omega))
            have HBw := Lib.hid HB.out
            obtain ⟨r0, r1, f0, f1⟩ := two_of (HNR.out (wr) HBw.out)
            go_wp2_with fail
            have hh5 := set2 (HNR.out (wr) HBw.out) (.string ⟨#[]⟩) (.string ⟨#[]⟩)
            have hb5 := below_turn (keepB' HB0.out HBw.out HB0.out.size) (set2_turn (wr) w.heap.size (.string ⟨#[]⟩) (.string ⟨#[]⟩)) (Nat.le_refl _)
            generalize hW5 : ((wr).setCell ⟨w.heap.size, 0, none⟩ (.string ⟨#[]⟩)).setCell ⟨w.heap.size, 1, none⟩ (.string ⟨#[]⟩) = W5 at hh5 hb5 ⊢
            obtain ⟨m0, m1, -⟩ := two_of hh5
            exact bodyPost_ret (v := .tuple #[.agg #[.string ⟨#[]⟩, .string ⟨#[]⟩], .bool false]) (by simp [results, Tryz.results28, go_sem, m0, m1]) rfl (by rw [HNN.out]; exact ⟨hb5, rfl⟩)
          · have q0 : (65 : Int) ≤ (x : Int) := by omega
            have q1 : ¬ (x : Int) ≤ 90 := by omega
            have q2 : (x : Int) < 97 := by omega
            have q3 : ¬ (x : Int) < 48 := by omega
            have q4 : (57 : Int) < (x : Int) := by omega
            have hne : ((x : Int) != 45) = true := by rw [bne_iff_ne]; omega
            have HNN := Lib.hid (HNO.out (by rw [HXX.out]; simp; omega))
            have HBw := Lib.hid HB.out
            obtain ⟨r0, r1, f0, f1⟩ := two_of (HNR.out (wr) HBw.out)
            go_wp2_with fail
            have hh5 := set2 (HNR.out (wr) HBw.out) (.string ⟨#[]⟩) (.string ⟨#[]⟩)
            have hb5 := below_turn (keepB' HB0.out HBw.out HB0.out.size) (set2_turn (wr) w.heap.size (.string ⟨#[]⟩) (.string ⟨#[]⟩)) (Nat.le_refl _)
            generalize hW5 : ((wr).setCell ⟨w.heap.size, 0, none⟩ (.string ⟨#[]⟩)).setCell ⟨w.heap.size, 1, none⟩ (.string ⟨#[]⟩) = W5 at hh5 hb5 ⊢
            obtain ⟨m0, m1, -⟩ := two_of hh5
            exact bodyPost_ret (v := .tuple #[.agg #[.string ⟨#[]⟩, .string ⟨#[]⟩], .bool false]) (by simp [results, Tryz.results28, go_sem, m0, m1]) rfl (by rw [HNN.out]; exact ⟨hb5, rfl⟩)
          · have q0 : (65 : Int) ≤ (x : Int) := by omega
            have q1 : ¬ (x : Int) ≤ 90 := by omega
            have q2 : ¬ (x : Int) < 97 := by omega
            have q3 : ¬ (122 : Int) < (x : Int) := by omega
            have hne : ((x : Int) != 45) = true := by rw [bne_iff_ne]; omega
            have HT2 := Lib.hid (HYS.out (by rw [HXX.out]; simp; omega))
            go_wp2
            exact ⟨⟨i + 1, by omega, by go_num, HT2, HR2, HB⟩, by simp [intOf]; omega⟩
          · have q0 : (65 : Int) ≤ (x : Int) := by omega
            have q1 : ¬ (x : Int) ≤ 90 := by omega
            have q2 : ¬ (x : Int) < 97 := by omega
            have q3 : (122 : Int) < (x : Int) := by omega
            have q4 : ¬ (x : Int) < 48 := by omega
            have q5 : (57 : Int) < (x : Int) := by omega
            have hne : ((x : Int) != 45) = true := by rw [bne_iff_ne]; omega
            have HNN := Lib.hid (HNO.out (by rw [HXX.out]; simp; omega))
            have HBw := Lib.hid HB.out
            obtain ⟨r0, r1, f0, f1⟩ := two_of (HNR.out (wr) HBw.out)
            go_wp2_with fail
            have hh5 := set2 (HNR.out (wr) HBw.out) (.string ⟨#[]⟩) (.string ⟨#[]⟩)
            have hb5 := below_turn (keepB' HB0.out HBw.out HB0.out.size) (set2_turn (wr) w.heap.size (.string ⟨#[]⟩) (.string ⟨#[]⟩)) (Nat.le_refl _)
            generalize hW5 : ((wr).setCell ⟨w.heap.size, 0, none⟩ (.string ⟨#[]⟩)).setCell ⟨w.heap.size, 1, none⟩ (.string ⟨#[]⟩) = W5 at hh5 hb5 ⊢
            obtain ⟨m0, m1, -⟩ := two_of hh5
            exact bodyPost_ret (v := .tuple #[.agg #[.string ⟨#[]⟩, .string ⟨#[]⟩], .bool false]) (by simp [results, Tryz.results28, go_sem, m0, m1]) rfl (by rw [HNN.out]; exact ⟨hb5, rfl⟩)
      · have hie : i = k := by omega
        subst hie
        have hlt' : ¬ (i : Int) < (i : Int) := by omega
        have HA2 := Lib.hid (show N.all named = true by have := HA.out; rwa [← hNl, List.take_length] at this)
        have HP2 := Lib.hid (show hdF s = if (V.all told) = true then some ⟨low N, trim V⟩ else none by rw [HP.out, HA2.out]; rfl)
        have HRN := Lib.hid (show CRow wr wz.heap.size (low N) by
          have := HR.out
          unfold lowT at this
          rwa [← hNl, List.take_length, List.drop_length, List.append_nil] at this)
        clear HP HA HA2 HR
        have h2 := sz V
        obtain ⟨wy, hwy⟩ : ∃ wy, wy = wr := ⟨_, rfl⟩
        subst hwy
        go_wp2_with fail
        go_loopw [9] (fun v9 wr => ∃ j : Nat, j ≤ V.length ∧ v9 = .int .i64 j ∧ Hid ((V.take j).all told = true) ∧ wr = wy) (fun v9 _ => V.length - (intOf v9).toNat)
        case atStart => exact ⟨0, Nat.zero_le _, rfl, Lib.hid rfl, rfl⟩
        case round =>
          obtain ⟨j, hj, rfl, HA, rfl⟩ := hrel
          have j0 : (0 : Int) ≤ (j : Int) := by omega
          by_cases hltj : j < V.length
          · have hltj' : (j : Int) < (V.length : Int) := by omega
            have HT := Lib.hid (all_take told V hltj)
            have HN := Lib.hid (fun h => all_not told V hltj h)
            have hg := get_ub V hltj
            obtain ⟨b, hbx⟩ : ∃ b, V.getD j 0 = b := ⟨_, rfl⟩
            rw [hbx] at HT HN hg
            clear hbx
            have hnr := told_nat b
            obtain ⟨nb, hnb⟩ : ∃ nb, told b = nb := ⟨_, rfl⟩
            rw [hnb] at hnr HT HN
            obtain ⟨x, hx⟩ : ∃ x, b.toNat = x := ⟨_, rfl⟩
            have hgx : ∀ h', ((((⟨V.toArray⟩ : ByteArray)[j]'h').toNat : Nat) : Int) = (x : Int) := fun h' => by rw [hg h', hx]
            rw [hx] at hnr
            clear hx hnb hg
            have HNO := Lib.hid (show nb = false → hdF s = none from fun h => by rw [HP2.out, HN.out h]; rfl)
            have HYS := Lib.hid (show nb = true → (V.take (j + 1)).all told = true from fun h => by rw [HT.out, HA.out, h]; rfl)
            have HXX := Lib.hid hnr
            clear hnr HT HN
            have hxc : (x < 33 ∧ x ≠ 32 ∧ x ≠ 9) ∨ (x = 32) ∨ (x = 9) ∨ (33 ≤ x ∧ x ≤ 126) ∨ 126 < x := by omega
            rcases hxc with ⟨hxc, hx1, hx2⟩ | hxc | hxc | hxc | hxc
            · have q0 : (x : Int) < 33 := by omega
              have q1 : ((x : Int) != 32) = true := by rw [bne_iff_ne]; omega
              have q2 : ((x : Int) != 9) = true := by rw [bne_iff_ne]; omega
              have HNN := Lib.hid (HNO.out (by rw [HXX.out]; simp; omega))
              obtain ⟨r0, r1, f0, f1⟩ := two_of (HNR.out (wr) HB.out)
              go_wp2_with fail
              have hh5 := set2 (HNR.out (wr) HB.out) (.string ⟨#[]⟩) (.string ⟨#[]⟩)
              have hb5 := below_turn (keepB' HB0.out HB.out HB0.out.size) (set2_turn (wr) w.heap.size (.string ⟨#[]⟩) (.string ⟨#[]⟩)) (Nat.le_refl _)
              generalize hW5 : ((wr).setCell ⟨w.heap.size, 0, none⟩ (.string ⟨#[]⟩)).setCell ⟨w.heap.size, 1, none⟩ (.string ⟨#[]⟩) = W5 at hh5 hb5 ⊢
              obtain ⟨m0, m1, -⟩ := two_of hh5
              exact bodyPost_ret (v := .tuple #[.agg #[.string ⟨#[]⟩, .string ⟨#[]⟩], .bool false]) (by simp [results, Tryz.results28, go_sem, m0, m1]) rfl (by rw [HNN.out]; exact ⟨hb5, rfl⟩)
            · subst hxc
              have HT2 := Lib.hid (HYS.out (by rw [HXX.out]; rfl))
              go_wp2
              exact ⟨⟨j + 1, by omega, by go_num, HT2, by trivial⟩, by simp [intOf]; omega⟩
            · subst hxc
              have HT2 := Lib.hid (HYS.out (by rw [HXX.out]; rfl))
              go_wp2
              exact ⟨⟨j + 1, by omega, by go_num, HT2, by trivial⟩, by simp [intOf]; omega⟩
            · have q0 : ¬ (x : Int) < 33 := by omega
              have q1 : ((x : Int) != 32) = true := by rw [bne_iff_ne]; omega
              have q2 : ((x : Int) != 9) = true := by rw [bne_iff_ne]; omega
              have q3 : ¬ (126 : Int) < (x : Int) := by omega
              have HT2 := Lib.hid (HYS.out (by rw [HXX.out]; simp; omega))
              go_wp2
              exact ⟨⟨j + 1, by omega, by go_num, HT2, by trivial⟩, by simp [intOf]; omega⟩
            · have q0 : ¬ (x : Int) < 33 := by omega
              have q1 : ((x : Int) != 32) = true := by rw [bne_iff_ne]; omega
              have q2 : ((x : Int) != 9) = true := by rw [bne_iff_ne]; omega
              have q3 : (126 : Int) < (x : Int) := by omega
              have HNN := Lib.hid (HNO.out (by rw [HXX.out]; simp; omega))
              obtain ⟨r0, r1, f0, f1⟩ := two_of (HNR.out (wr) HB.out)
              go_wp2_with fail
              have hh5 := set2 (HNR.out (wr) HB.out) (.string ⟨#[]⟩) (.string ⟨#[]⟩)
              have hb5 := below_turn (keepB' HB0.out HB.out HB0.out.size) (set2_turn (wr) w.heap.size (.string ⟨#[]⟩) (.string ⟨#[]⟩)) (Nat.le_refl _)
              generalize hW5 : ((wr).setCell ⟨w.heap.size, 0, none⟩ (.string ⟨#[]⟩)).setCell ⟨w.heap.size, 1, none⟩ (.string ⟨#[]⟩) = W5 at hh5 hb5 ⊢
              obtain ⟨m0, m1, -⟩ := two_of hh5
              exact bodyPost_ret (v := .tuple #[.agg #[.string ⟨#[]⟩, .string ⟨#[]⟩], .bool false]) (by simp [results, Tryz.results28, go_sem, m0, m1]) rfl (by rw [HNN.out]; exact ⟨hb5, rfl⟩)
          · have hje : j = V.length := by omega
            subst hje
            have hltj' : ¬ (V.length : Int) < (V.length : Int) := by omega
            have HP3 := Lib.hid (show hdF s = some ⟨low N, trim V⟩ by
              have h := HA.out
              rw [List.take_length] at h
              rw [HP2.out, h]; rfl)
            clear HP2 HA
            obtain ⟨wy, hwy⟩ : ∃ wy, wy = wr := ⟨_, rfl⟩
            subst hwy
            go_wp2_with fail
            go_loopw [8] (fun v8 wr => ∃ q : Bs, v8 = vs q ∧ q.length ≤ 1000000 ∧ Hid (trim q = trim V) ∧ wr = wy) (fun v8 _ => strLen v8)
            case atStart => exact ⟨V, rfl, hVl, Lib.hid rfl, rfl⟩
            case round =>
              obtain ⟨q, rfl, hql, HQ, rfl⟩ := hrel
              have hqs := sz q
              by_cases hsp : 0 < q.length ∧ sp (q.getD 0 0) = true
              · obtain ⟨hq0, hqsp⟩ := hsp
                have hq0' : (0 : Int) < (q.length : Int) := by omega
                have hq1' : (1 : Int) ≤ (q.length : Int) := by omega
                have hg := get_ub q hq0
                have hcg := cons_get q hq0
                have hx2 := ext_drop q 1 q.length rfl
                have HQ2 := Lib.hid (show trim q.tail = trim V by
                  rw [← HQ.out]
                  conv => rhs; rw [hcg]
                  exact (trim_left _ _ hqsp).symm)
                have hdl : q.tail.length = q.length - 1 := List.length_tail
                clear hcg
                rw [sp_eq] at hqsp
                obtain ⟨x, hx⟩ : ∃ x, (q.getD 0 0).toNat = x := ⟨_, rfl⟩
                have hgx : ∀ h', ((((⟨q.toArray⟩ : ByteArray)[0]'h').toNat : Nat) : Int) = (x : Int) := fun h' => by rw [hg h', hx]
                rw [hx] at hqsp
                clear hx hg
                have hxc : x = 32 ∨ x = 9 := by simpa using hqsp
                clear hqsp
                rcases hxc with hxc | hxc
                all_goals
                  subst hxc
                  go_wp2
                  refine ⟨⟨_, rfl, by rw [hdl]; omega, HQ2, by trivial⟩, ?_⟩
                  show (⟨q.tail.toArray⟩ : ByteArray).size < (⟨q.toArray⟩ : ByteArray).size
                  rw [sz, sz, hdl]
                  omega
              · have HSP := Lib.hid (show ∀ c, q.head? = some c → sp c = false from fun c hc => by
                  by_cases hq0 : 0 < q.length
                  · rw [head_get q hq0] at hc
                    rw [← Option.some.inj hc]
                    cases h : sp (q.getD 0 0)
                    · rfl
                    · exact absurd ⟨hq0, h⟩ hsp
                  · have : q = [] := List.eq_nil_of_length_eq_zero (by omega)
                    rw [this] at hc; cases hc)
                by_cases hq0 : 0 < q.length
                · have hg := get_ub q hq0
                  have hnsp := HSP.out _ (head_get q hq0)
                  rw [sp_eq] at hnsp
                  obtain ⟨x, hx⟩ : ∃ x, (q.getD 0 0).toNat = x := ⟨_, rfl⟩
                  have hgx : ∀ h', ((((⟨q.toArray⟩ : ByteArray)[0]'h').toNat : Nat) : Int) = (x : Int) := fun h' => by rw [hg h', hx]
                  rw [hx] at hnsp
                  have hx12 : x ≠ 32 ∧ x ≠ 9 := by simpa using hnsp
                  have q1 : ((x : Int) == 32) = false := by rw [beq_eq_false_iff_ne]; omega
                  have q2 : ((x : Int) == 9) = false := by rw [beq_eq_false_iff_ne]; omega
                  have hq0' : (0 : Int) < (q.length : Int) := by omega
                  clear hx hg hnsp hx12 hsp
                  obtain ⟨wx, hwx⟩ : ∃ wx, wx = wr := ⟨_, rfl⟩
                  subst hwx
                  go_wp2_with fail
                  go_loopw [8] (fun v8 wr => ∃ q : Bs, v8 = vs q ∧ q.length ≤ 1000000 ∧ Hid (trim q = trim V) ∧ Hid (∀ c, q.head? = some c → sp c = false) ∧ wr = wx) (fun v8 _ => strLen v8)
                  case atStart => exact ⟨q, rfl, hql, HQ, HSP, rfl⟩
                  case round =>
                    clear HQ HSP hql hqs
                    obtain ⟨q, rfl, hql, HQ, HSP, rfl⟩ := hrel
                    have hqs := sz q
                    by_cases hsp : 0 < q.length ∧ sp (q.getD (q.length - 1) 0) = true
                    · obtain ⟨hq0, hqsp⟩ := hsp
                      obtain ⟨m, hm⟩ : ∃ m, q.length = m + 1 := ⟨q.length - 1, by omega⟩
                      rw [hm, Nat.add_sub_cancel] at hqsp
                      have hg := get_ub q (k := m) (by omega)
                      obtain ⟨-, hlast⟩ := last_get q hm
                      have hx1 := ext_to q m
                      have HQ2 := Lib.hid (show trim (q.take m) = trim V by
                        rw [← HQ.out]
                        conv => rhs; rw [hlast]
                        exact (trim_right _ _ hqsp).symm)
                      have HSP2 := Lib.hid (show ∀ c, (q.take m).head? = some c → sp c = false from fun c hc => HSP.out c (take_head q (by omega) c hc))
                      have htl : (q.take m).length = m := by rw [List.length_take]; omega
                      clear hlast
                      rw [sp_eq] at hqsp
                      obtain ⟨x, hx⟩ : ∃ x, (q.getD m 0).toNat = x := ⟨_, rfl⟩
                      have hgx : ∀ h', ((((⟨q.toArray⟩ : ByteArray)[m]'h').toNat : Nat) : Int) = (x : Int) := fun h' => by rw [hg h', hx]
                      rw [hx] at hqsp
                      clear hx hg
                      rw [hm] at hqs
                      have hlen : ((q.length : Nat) : Int) = (m : Int) + 1 := by omega
                      have hm0 : (0 : Int) < (m : Int) + 1 := by omega
                      have hm1 : (m : Int) < (m : Int) + 1 := by omega
                      have hm2 : (m : Int) ≤ (m : Int) + 1 := by omega
                      have hm3 : (0 : Int) ≤ (m : Int) := by omega
                      have hxc : x = 32 ∨ x = 9 := by simpa using hqsp
                      clear hqsp
                      rcases hxc with hxc | hxc
                      all_goals
                        subst hxc
                        go_wp2
                        refine ⟨⟨_, rfl, by rw [htl]; omega, HQ2, HSP2, by trivial⟩, ?_⟩
                        show (⟨(q.take m).toArray⟩ : ByteArray).size < (⟨q.toArray⟩ : ByteArray).size
                        rw [sz, sz, htl]
                        omega
                    · have HT := Lib.hid (show trim V = q by
                        rw [← HQ.out]
                        refine trim_done q HSP.out (fun c hc => ?_)
                        by_cases hq0 : 0 < q.length
                        · obtain ⟨h5, -⟩ := last_get q (n := q.length - 1) (by omega)
                          rw [h5] at hc
                          rw [← Option.some.inj hc]
                          cases h : sp (q.getD (q.length - 1) 0)
                          · rfl
                          · exact absurd ⟨hq0, h⟩ hsp
                        · have : q = [] := List.eq_nil_of_length_eq_zero (by omega)
                          rw [this] at hc; cases hc)
                      have hcv2 := conv_rd (c := c) (HRN.out.bread (by rw [low_length, hNl]; omega))
                      rw [low_length, hNl] at hcv2
                      have HP4 := Lib.hid (show hdF s = some ⟨low N, q⟩ by rw [HP3.out, HT.out])
                      by_cases hq0 : 0 < q.length
                      · obtain ⟨m, hm⟩ : ∃ m, q.length = m + 1 := ⟨q.length - 1, by omega⟩
                        rw [hm, Nat.add_sub_cancel] at hsp
                        have hg := get_ub q (k := m) (by omega)
                        have hnsp : sp (q.getD m 0) = false := by
                          cases h : sp (q.getD m 0)
                          · rfl
                          · exact absurd ⟨by omega, h⟩ hsp
                        rw [sp_eq] at hnsp
                        obtain ⟨x, hx⟩ : ∃ x, (q.getD m 0).toNat = x := ⟨_, rfl⟩
                        have hgx : ∀ h', ((((⟨q.toArray⟩ : ByteArray)[m]'h').toNat : Nat) : Int) = (x : Int) := fun h' => by rw [hg h', hx]
                        rw [hx] at hnsp
                        clear hx hg hsp
                        rw [hm] at hqs
                        have hm0 : (0 : Int) < (m : Int) + 1 := by omega
                        have hm1 : (m : Int) < (m : Int) + 1 := by omega
                        have hm3 : (0 : Int) ≤ (m : Int) := by omega
                        have hx12 : x ≠ 32 ∧ x ≠ 9 := by simpa using hnsp
                        have q1 : ((x : Int) == 32) = false := by rw [beq_eq_false_iff_ne]; omega
                        have q2 : ((x : Int) == 9) = false := by rw [beq_eq_false_iff_ne]; omega
                        clear hnsp hx12
                        obtain ⟨r0, r1, f0, f1⟩ := two_of (HNR.out (wr) HB.out)
                        go_wp2_with fail
                        have hh5 := set2 (HNR.out (wr) HB.out) (vs (low N)) (vs q)
                        have hb5 := below_turn (keepB' HB0.out HB.out HB0.out.size) (set2_turn (wr) w.heap.size (vs (low N)) (vs q)) (Nat.le_refl _)
                        generalize hW5 : ((wr).setCell ⟨w.heap.size, 0, none⟩ (vs (low N))).setCell ⟨w.heap.size, 1, none⟩ (vs q) = W5 at hh5 hb5 ⊢
                        obtain ⟨m0, m1, -⟩ := two_of hh5
                        exact bodyPost_ret (v := .tuple #[.agg #[vs (low N), vs q], .bool true]) (by simp [results, Tryz.results28, go_sem, m0, m1]) rfl (by rw [HP4.out]; exact ⟨hb5, rfl⟩)
                      · have hq0' : ¬ (0 : Int) < (q.length : Int) := by omega
                        clear hsp
                        obtain ⟨r0, r1, f0, f1⟩ := two_of (HNR.out (wr) HB.out)
                        go_wp2_with fail
                        have hh5 := set2 (HNR.out (wr) HB.out) (vs (low N)) (vs q)
                        have hb5 := below_turn (keepB' HB0.out HB.out HB0.out.size) (set2_turn (wr) w.heap.size (vs (low N)) (vs q)) (Nat.le_refl _)
                        generalize hW5 : ((wr).setCell ⟨w.heap.size, 0, none⟩ (vs (low N))).setCell ⟨w.heap.size, 1, none⟩ (vs q) = W5 at hh5 hb5 ⊢
                        obtain ⟨m0, m1, -⟩ := two_of hh5
                        exact bodyPost_ret (v := .tuple #[.agg #[vs (low N), vs q], .bool true]) (by simp [results, Tryz.results28, go_sem, m0, m1]) rfl (by rw [HP4.out]; exact ⟨hb5, rfl⟩)
                · have hq0' : ¬ (0 : Int) < (q.length : Int) := by omega
                  clear hsp
                  obtain ⟨wx, hwx⟩ : ∃ wx, wx = wr := ⟨_, rfl⟩
                  subst hwx
                  go_wp2_with fail
                  go_loopw [8] (fun v8 wr => ∃ q : Bs, v8 = vs q ∧ q.length ≤ 1000000 ∧ Hid (trim q = trim V) ∧ Hid (∀ c, q.head? = some c → sp c = false) ∧ wr = wx) (fun v8 _ => strLen v8)
                  case atStart => exact ⟨q, rfl, hql, HQ, HSP, rfl⟩
                  case round =>
                    clear HQ HSP hql hqs
                    obtain ⟨q, rfl, hql, HQ, HSP, rfl⟩ := hrel
                    have hqs := sz q
                    by_cases hsp : 0 < q.length ∧ sp (q.getD (q.length - 1) 0) = true
                    · obtain ⟨hq0, hqsp⟩ := hsp
                      obtain ⟨m, hm⟩ : ∃ m, q.length = m + 1 := ⟨q.length - 1, by omega⟩
                      rw [hm, Nat.add_sub_cancel] at hqsp
                      have hg := get_ub q (k := m) (by omega)
                      obtain ⟨-, hlast⟩ := last_get q hm
                      have hx1 := ext_to q m
                      have HQ2 := Lib.hid (show trim (q.take m) = trim V by
                        rw [← HQ.out]
                        conv => rhs; rw [hlast]
                        exact (trim_right _ _ hqsp).symm)
                      have HSP2 := Lib.hid (show ∀ c, (q.take m).head? = some c → sp c = false from fun c hc => HSP.out c (take_head q (by omega) c hc))
                      have htl : (q.take m).length = m := by rw [List.length_take]; omega
                      clear hlast
                      rw [sp_eq] at hqsp
                      obtain ⟨x, hx⟩ : ∃ x, (q.getD m 0).toNat = x := ⟨_, rfl⟩
                      have hgx : ∀ h', ((((⟨q.toArray⟩ : ByteArray)[m]'h').toNat : Nat) : Int) = (x : Int) := fun h' => by rw [hg h', hx]
                      rw [hx] at hqsp
                      clear hx hg
                      rw [hm] at hqs
                      have hlen : ((q.length : Nat) : Int) = (m : Int) + 1 := by omega
                      have hm0 : (0 : Int) < (m : Int) + 1 := by omega
                      have hm1 : (m : Int) < (m : Int) + 1 := by omega
                      have hm2 : (m : Int) ≤ (m : Int) + 1 := by omega
                      have hm3 : (0 : Int) ≤ (m : Int) := by omega
                      have hxc : x = 32 ∨ x = 9 := by simpa using hqsp
                      clear hqsp
                      rcases hxc with hxc | hxc
                      all_goals
                        subst hxc
                        go_wp2
                        refine ⟨⟨_, rfl, by rw [htl]; omega, HQ2, HSP2, by trivial⟩, ?_⟩
                        show (⟨(q.take m).toArray⟩ : ByteArray).size < (⟨q.toArray⟩ : ByteArray).size
                        rw [sz, sz, htl]
                        omega
                    · have HT := Lib.hid (show trim V = q by
                        rw [← HQ.out]
                        refine trim_done q HSP.out (fun c hc => ?_)
                        by_cases hq0 : 0 < q.length
                        · obtain ⟨h5, -⟩ := last_get q (n := q.length - 1) (by omega)
                          rw [h5] at hc
                          rw [← Option.some.inj hc]
                          cases h : sp (q.getD (q.length - 1) 0)
                          · rfl
                          · exact absurd ⟨hq0, h⟩ hsp
                        · have : q = [] := List.eq_nil_of_length_eq_zero (by omega)
                          rw [this] at hc; cases hc)
                      have hcv2 := conv_rd (c := c) (HRN.out.bread (by rw [low_length, hNl]; omega))
                      rw [low_length, hNl] at hcv2
                      have HP4 := Lib.hid (show hdF s = some ⟨low N, q⟩ by rw [HP3.out, HT.out])
                      by_cases hq0 : 0 < q.length
                      · obtain ⟨m, hm⟩ : ∃ m, q.length = m + 1 := ⟨q.length - 1, by omega⟩
                        rw [hm, Nat.add_sub_cancel] at hsp
                        have hg := get_ub q (k := m) (by omega)
                        have hnsp : sp (q.getD m 0) = false := by
                          cases h : sp (q.getD m 0)
                          · rfl
                          · exact absurd ⟨by omega, h⟩ hsp
                        rw [sp_eq] at hnsp
                        obtain ⟨x, hx⟩ : ∃ x, (q.getD m 0).toNat = x := ⟨_, rfl⟩
                        have hgx : ∀ h', ((((⟨q.toArray⟩ : ByteArray)[m]'h').toNat : Nat) : Int) = (x : Int) := fun h' => by rw [hg h', hx]
                        rw [hx] at hnsp
                        clear hx hg hsp
                        rw [hm] at hqs
                        have hm0 : (0 : Int) < (m : Int) + 1 := by omega
                        have hm1 : (m : Int) < (m : Int) + 1 := by omega
                        have hm3 : (0 : Int) ≤ (m : Int) := by omega
                        have hx12 : x ≠ 32 ∧ x ≠ 9 := by simpa using hnsp
                        have q1 : ((x : Int) == 32) = false := by rw [beq_eq_false_iff_ne]; omega
                        have q2 : ((x : Int) == 9) = false := by rw [beq_eq_false_iff_ne]; omega
                        clear hnsp hx12
                        obtain ⟨r0, r1, f0, f1⟩ := two_of (HNR.out (wr) HB.out)
                        go_wp2_with fail
                        have hh5 := set2 (HNR.out (wr) HB.out) (vs (low N)) (vs q)
                        have hb5 := below_turn (keepB' HB0.out HB.out HB0.out.size) (set2_turn (wr) w.heap.size (vs (low N)) (vs q)) (Nat.le_refl _)
                        generalize hW5 : ((wr).setCell ⟨w.heap.size, 0, none⟩ (vs (low N))).setCell ⟨w.heap.size, 1, none⟩ (vs q) = W5 at hh5 hb5 ⊢
                        obtain ⟨m0, m1, -⟩ := two_of hh5
                        exact bodyPost_ret (v := .tuple #[.agg #[vs (low N), vs q], .bool true]) (by simp [results, Tryz.results28, go_sem, m0, m1]) rfl (by rw [HP4.out]; exact ⟨hb5, rfl⟩)
                      · have hq0' : ¬ (0 : Int) < (q.length : Int) := by omega
                        clear hsp
                        obtain ⟨r0, r1, f0, f1⟩ := two_of (HNR.out (wr) HB.out)
                        go_wp2_with fail
                        have hh5 := set2 (HNR.out (wr) HB.out) (vs (low N)) (vs q)
                        have hb5 := below_turn (keepB' HB0.out HB.out HB0.out.size) (set2_turn (wr) w.heap.size (vs (low N)) (vs q)) (Nat.le_refl _)
                        generalize hW5 : ((wr).setCell ⟨w.heap.size, 0, none⟩ (vs (low N))).setCell ⟨w.heap.size, 1, none⟩ (vs q) = W5 at hh5 hb5 ⊢
                        obtain ⟨m0, m1, -⟩ := two_of hh5
                        exact bodyPost_ret (v := .tuple #[.agg #[vs (low N), vs q], .bool true]) (by simp [results, Tryz.results28, go_sem, m0, m1]) rfl (by rw [HP4.out]; exact ⟨hb5, rfl⟩)
end Go.Proofs.YtomancadpdccaaaGreatDoor.Ht

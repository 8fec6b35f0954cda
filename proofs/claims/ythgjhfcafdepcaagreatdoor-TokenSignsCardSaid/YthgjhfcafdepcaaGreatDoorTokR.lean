/-
  TokenReads, walked.
-/
import Derived.Test.YthgjhfcafdepcaaGreatDoorTokQ
import Derived.Laws.BytesArg
namespace Go.Proofs.YthgjhfcafdepcaaGreatDoor.Tk
open Go.RowKit Go.Proofs.YthgjhfcafdepcaaGreatDoor.B Go.Proofs.YthgjhfcafdepcaaGreatDoor.S10
open Go.Proofs.YthgjhfcafdepcaaGreatDoor.M
open Go.Proofs.YthgjhfcafdepcaaGreatDoor.C (QRow Turn)
open Go.Proofs.YthgjhfcafdepcaaGreatDoor.Sh (macF macF_len RdB)
open Go.Proofs.YthgjhfcafdepcaaGreatDoor.S01 (hexF unhexF)
set_option linter.unusedVariables false
set_option linter.unusedSimpArgs false

set_option maxRecDepth 100000 in
theorem conv_arg2 {w : World} {A : Option Addr} {n c : Nat} {l : List UInt8} (h : Nu.BRead w A n l) (hA : A = none → n = 0) : (convert 22 9 (.slice A n c)).run Tryz.prog w = .ok (.string ⟨l.toArray⟩) w := by
  cases A with
  | none =>
    obtain rfl := hA rfl
    have hl : l = [] := List.eq_nil_of_length_eq_zero h.1
    subst hl
    exact run_convert_bytes_nil w 22 5 Tryz.underlying22 Tryz.underlying5 _ _ 9 rfl
  | some ad =>
    have hcells : ∀ i, i < n → w.cell? (ad.add i) = some (.int .u8 (S01.by' l i)) := fun i hi => by
      obtain ⟨ad', e, hc⟩ := h.at_ i hi
      cases e; exact hc
    have hl : (loadCells ad n).run Tryz.prog w = .ok (l.map Nu.vb).toArray w := by
      have := run_loadCells_list (P := Tryz.prog) w ad (l.map Nu.vb) (Nu.news_of h.1 hcells)
      rw [List.length_map, h.1] at this
      exact this
    rw [run_convert_bytes_string w 22 9 5 _ n c Tryz.underlying22 Tryz.underlying5 rfl]
    have hl2 : (loadCells ad n).run Tryz.prog w = .ok ((l.map fun b => (b.toNat : Int)).map (Value.int .u8)).toArray w := by
      rw [hl, List.map_map]; rfl
    rw [run_bytesToString w _ n c _ hl2, foldl_push_bytes]
    simp [ByteArray.empty, ByteArray.emptyWithCapacity, List.map_map, Function.comp_def]
    rfl
set_option maxRecDepth 100000 in
theorem conv_rd {w : World} {A : Option Addr} {n c : Nat} {l : Bs} (h : Nu.BRead w A n l) : (convert 22 9 (.slice A n c)).run Tryz.prog w = .ok (vs l) w := conv_arg2 h (fun hA => by
  subst hA
  by_cases h0 : 0 < n
  · obtain ⟨ad, h1, _⟩ := h.2.2 h0
    cases h1
  · omega)
theorem bread_nil (w : World) : Nu.BRead w none 0 [] := ⟨rfl, by simp, fun h => by omega⟩
set_option maxRecDepth 100000 in
set_option maxHeartbeats 4000000 in
theorem reads_calls (s : Bs) (hs : s.length ≤ 9223372036854775807) (w : World) (ht : Nu.Tab w) (he : Nu.Errs w) : Calls Tryz.prog 4 #[vs s] w (BRet w true) := by
  have HT := Lib.hid ht
  have HE := Lib.hid he
  clear ht he
  go_enter Tryz.func4, Tryz.ntmps4
  go_wp2_with fail
  refine (awake_calls w HT.out HE.out).mono ?_
  rintro e w1 ⟨rfl, hb1⟩
  have HB1 := Lib.hid hb1
  clear hb1
  by_cases hlong : 2000 < s.length
  · have hlong' : (2000 : Int) < (s.length : Int) := by omega
    go_wp2
    go_ret
    exact ⟨rfl, HB1.out⟩
  · have hlong' : ¬ (2000 : Int) < (s.length : Int) := by omega
    have HRP := Lib.hid (Read_calls s (by omega) w1 (Nu.Tab.below HT.out HB1.out) (Nu.Errs.below HE.out HB1.out))
    have HRD := Lib.hid (fun V => refRead_calls s (by omega) V)
    rw [← read_same s] at HRD
    obtain ⟨r, hr⟩ : ∃ r, readP s = r := ⟨_, rfl⟩
    rw [hr] at HRP HRD
    clear hr
    cases r with
    | none =>
      have HRP2 := Lib.hid (show Calls Tryz.prog 14 #[vs s] w1 (fun e w' => Below w1.heap.size w1 w' ∧ e = .returned (.tuple #[clV noC, vs [], .slice none 0 0, .bool false])) from HRP.out)
      have HRD2 := Lib.hid (show ∀ V, Calls Tryz.prog 15 #[vs s] V (fun e w' => Below V.heap.size V w' ∧ e = .returned (.tuple #[clV noC, vs [], .slice none 0 0, .bool false])) from HRD.out)
      clear HRP HRD
      obtain ⟨nc, hnc⟩ : ∃ nc, noC = nc := ⟨_, rfl⟩
      rw [hnc] at HRP2 HRD2
      clear hnc
      obtain ⟨tn, k, i, key, ex⟩ := nc
      go_wp2_with fail
      refine HRP2.out.mono ?_
      rintro e w2 ⟨hb2, rfl⟩
      have HB2 := Lib.hid (below_more HB1.out hb2)
      clear hb2
      obtain ⟨w3, hw3⟩ : ∃ w3, w2.alloc (.cells #[vs tn, vs k, vs i, vs key, .int .i64 ex] 26) = w3 := ⟨_, rfl⟩
      have hl3 : w2.heap.size < w3.heap.size := by rw [← hw3]; simp
      have HC3 := Lib.hid (show w3.heap[w2.heap.size]? = some (.cells #[vs tn, vs k, vs i, vs key, .int .i64 ex] 26 (0, 0)) by rw [← hw3]; exact heap_alloc_new w2 _)
      have HB3 := Lib.hid (show Below w.heap.size w w3 by rw [← hw3]; exact belAlloc HB2.out _)
      go_wp2_with fail
      refine (HRD2.out _).mono ?_
      rintro e w4 ⟨hb4, rfl⟩
      have HB4 := Lib.hid (below_more HB3.out hb4)
      obtain ⟨p0, p1, p2, p3, p4, -⟩ := five_cells (((belAlloc' hb4 (.cells #[vs tn, vs k, vs i, vs key, .int .i64 ex] 26)).block _ hl3).trans HC3.out)
      obtain ⟨m0, m1, m2, m3, m4, -⟩ := five_cells (heap_alloc_new w4 (.cells #[vs tn, vs k, vs i, vs key, .int .i64 ex] 26))
      have v0 := conv_rd (c := 0) (bread_nil (w4.alloc (.cells #[vs tn, vs k, vs i, vs key, .int .i64 ex] 26)))
      clear hb4
      go_wp2
      go_ret
      exact ⟨rfl, belAlloc HB4.out _⟩
    | some r =>
      obtain ⟨⟨tn, k, i, key, ex⟩, t, g⟩ := r
      have HRP2 := Lib.hid (show Calls Tryz.prog 14 #[vs s] w1 (fun e w' => Below w1.heap.size w1 w' ∧ ∃ A cp, e = .returned (.tuple #[clV ⟨tn, k, i, key, ex⟩, vs t, .slice A 32 cp, .bool true]) ∧ g.length = 32 ∧ 32 ≤ cp ∧ RdB w' (fun _ => True) A g) from HRP.out)
      have HRD2 := Lib.hid (show ∀ V, Calls Tryz.prog 15 #[vs s] V (fun e w' => Below V.heap.size V w' ∧ ∃ A cp, e = .returned (.tuple #[clV ⟨tn, k, i, key, ex⟩, vs t, .slice A 32 cp, .bool true]) ∧ g.length = 32 ∧ 32 ≤ cp ∧ RdB w' (fun _ => True) A g) from HRD.out)
      clear HRP HRD
      go_wp2_with fail
      refine HRP2.out.mono ?_
      rintro e w2 ⟨hb2, A1, c1, rfl, hg, hc1, hr1⟩
      have HB2 := Lib.hid (below_more HB1.out hb2)
      have HG := Lib.hid hg
      clear hb2
      obtain ⟨w3, hw3⟩ : ∃ w3, w2.alloc (.cells #[vs tn, vs k, vs i, vs key, .int .i64 ex] 26) = w3 := ⟨_, rfl⟩
      have hl3 : w2.heap.size < w3.heap.size := by rw [← hw3]; simp
      have hb23 : Below w2.heap.size w2 w3 := by rw [← hw3]; exact (Below.refl _ w2).alloc (Nat.le_refl _) _
      have HC3 := Lib.hid (show w3.heap[w2.heap.size]? = some (.cells #[vs tn, vs k, vs i, vs key, .int .i64 ex] 26 (0, 0)) by rw [← hw3]; exact heap_alloc_new w2 _)
      have HB3 := Lib.hid (below_more HB2.out hb23)
      have HR3 := Lib.hid (hr1.below hb23 (F' := fun _ => True) (fun _ _ _ => trivial))
      clear hr1 hb23 hg
      go_wp2_with fail
      refine (HRD2.out _).mono ?_
      rintro e w4 ⟨hb4, A2, c2, rfl, -, hc2, hr2⟩
      have HB4 := Lib.hid (below_more HB3.out hb4)
      obtain ⟨p0, p1, p2, p3, p4, -⟩ := five_cells (((belAlloc' hb4 (.cells #[vs tn, vs k, vs i, vs key, .int .i64 ex] 26)).block _ hl3).trans HC3.out)
      obtain ⟨m0, m1, m2, m3, m4, -⟩ := five_cells (heap_alloc_new w4 (.cells #[vs tn, vs k, vs i, vs key, .int .i64 ex] 26))
      have hba : Below w4.heap.size w4 (w4.alloc (.cells #[vs tn, vs k, vs i, vs key, .int .i64 ex] 26)) := (Below.refl _ w4).alloc (Nat.le_refl _) _
      have v1 := conv_rd (c := c1) (rd_bread (HR3.out.below (below_more hb4 hba) (F' := fun _ => True) (fun _ _ _ => trivial)) HG.out (by omega)) 
      have v2 := conv_rd (c := c2) (rd_bread (hr2.below hba (F' := fun _ => True) (fun _ _ _ => trivial)) HG.out (by omega))
      clear hb4 hr2 hba
      go_wp2
      go_ret
      exact ⟨rfl, belAlloc HB4.out _⟩
end Go.Proofs.YthgjhfcafdepcaaGreatDoor.Tk

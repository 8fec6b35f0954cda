/-
  LangBack: the walk.
-/
import Derived.Test.YtgmlcnikphbiiaaDoorLangOa
import Derived.Test.YtgmlcnikphbiiaaDoorLangOb
import Derived.Test.YtgmlcnikphbiiaaDoorLangPq
namespace Go.Proofs.YtgmlcnikphbiiaaDoor.L
open Go.RowKit Go.Proofs.YtgmlcnikphbiiaaDoor.B Go.Proofs.YtgmlcnikphbiiaaDoor.S10 Go.Proofs.YtgmlcnikphbiiaaDoor.Nm
open Go.Proofs.YtgmlcnikphbiiaaDoor.C (QRow Turn)
set_option linter.unusedVariables false
set_option linter.unusedSimpArgs false

theorem few_count {t : Ty} {ts : List Ty} (h : fewP ts 300 = true) (ht : t ∈ ts) : t.name.length ≤ 100 ∧ t.rels.length ≤ 300 ∧ ∀ r ∈ t.rels, r.name.length ≤ 100 ∧ r.refs.length ≤ 300 ∧ r.ex.height ≤ 300 := by
  obtain ⟨-, h2⟩ := few_known h
  obtain ⟨k1, k2, k3⟩ := h2 t ht
  refine ⟨k1, by omega, fun r hr => ?_⟩
  obtain ⟨j1, j2, j3⟩ := k3 r hr
  exact ⟨j1, by omega, j3⟩
theorem few_refs {ts : List Ty} (h : fewP ts 300 = true) (i j : Nat) : (rlAt (tyAt ts i).rels j).refs.length ≤ 100000 := by
  by_cases hi : i < ts.length
  · by_cases hj : j < (tyAt ts i).rels.length
    · have := ((few_count h (tyAt_mem hi)).2.2 _ (rlAt_mem hj)).2.1
      omega
    · unfold rlAt
      rw [List.getD_eq_getElem?_getD, List.getElem?_eq_none (Nat.le_of_not_lt hj)]
      simp
  · show (rlAt (ts.getD i ⟨[], []⟩).rels j).refs.length ≤ _
    rw [List.getD_eq_getElem?_getD, List.getElem?_eq_none (by omega)]
    simp [rlAt]
theorem few_len {ts : List Ty} (h : fewP ts 300 = true) (hm : mayS ts = true) : (printT ts).length ≤ 10000000000000 := by
  have hl := (few_known h).1
  have hmt := List.all_eq_true.1 (show ts.all mayT = true from hm)
  have : (printT ts).length ≤ ts.length * 1400000000 := flat_bound tyT 1400000000 ts (fun t ht => by
    obtain ⟨k1, k2, k3⟩ := few_count h ht
    have hmr := hmt t ht
    unfold mayT at hmr
    rw [Bool.and_eq_true] at hmr
    have hmr := List.all_eq_true.1 hmr.2
    have h1 := flat_bound lineT 320000 t.rels (fun r hr => by have := lineT_len (hmr r hr) (k3 r hr).2.1; omega)
    have : t.rels.length * 320000 ≤ 300 * 320000 := Nat.mul_le_mul_right _ k2
    unfold tyT typeB
    simp only [List.length_append, List.length_cons, List.length_nil]
    omega)
  have : ts.length * 1400000000 ≤ 300 * 1400000000 := Nat.mul_le_mul_right _ (by omega)
  show (printT ts).length ≤ _
  omega
theorem few_told {ts : List Ty} (h : fewP ts 300 = true) (hm : mayS ts = true) (hf : FitS ts) : Told ts := ⟨hm, hf, few_refs h, few_len h hm⟩
set_option maxRecDepth 100000 in
set_option maxHeartbeats 8000000 in
theorem LangBack_calls (ts : List Ty) (A : Option Addr) (n c : Nat) (w : World) (h : SlV w Ev 2 (TyR w Ev) ts A n) (hf : FitS ts) : Calls Tryd.prog 6 #[.agg #[.slice A n c]] w (BRet w true) := by
  have hB0 := (Below.refl w.heap.size w).alloc (Nat.le_refl _) (.cells #[.slice A n c] 25)
  have g0 := heap_alloc_new w (.cells #[.slice A n c] 25)
  have HS := Lib.hid (types_below h hB0)
  have HF := Lib.hid hf
  have HB := Lib.hid hB0
  have HG := Lib.hid g0
  clear h hf hB0 g0
  go_enter Tryd.func6, Tryd.ntmps6
  go_wp2_with fail
  refine (awake_calls _).mono ?_
  rintro e w0 ⟨rfl, hb0⟩
  have HB0 := Lib.hid (keepB HB.out hb0)
  have HS0 := Lib.hid (types_below HS.out hb0)
  have hg0 := (hb0.block _ (lt_of_heap HG.out)).trans HG.out
  have HG0 := Lib.hid hg0
  have s0 := cells_of hg0 0 (.slice A n c) rfl
  clear hb0 hg0
  go_wp2_with fail
  refine (Few_calls Ev ts A n c _ HS0.out).mono ?_
  rintro e w1 ⟨rfl, hb1⟩
  have HB1 := Lib.hid (keepB HB0.out hb1)
  have HS1 := Lib.hid (types_below HS0.out hb1)
  have hg1 := (hb1.block _ (lt_of_heap HG0.out)).trans HG0.out
  have HG1 := Lib.hid hg1
  have s0 := cells_of hg1 0 (.slice A n c) rfl
  clear hb1 hg1
  obtain ⟨fw, hfw⟩ : ∃ fw, fewP ts 300 = fw := ⟨_, rfl⟩
  rw [hfw]
  have HFW := Lib.hid hfw
  clear hfw
  cases fw
  · go_wp2
    go_ret
    exact ⟨rfl, HB1.out⟩
  go_wp2_with fail
  refine (May_calls Ev ts A n c _ HS1.out HF.out).mono ?_
  rintro e w2 ⟨rfl, hb2⟩
  have HB2 := Lib.hid (keepB HB1.out hb2)
  have HS2 := Lib.hid (types_below HS1.out hb2)
  have hg2 := (hb2.block _ (lt_of_heap HG1.out)).trans HG1.out
  have HG2 := Lib.hid hg2
  have s0 := cells_of hg2 0 (.slice A n c) rfl
  clear hb2 hg2
  obtain ⟨mm, hmm⟩ : ∃ mm, mayS ts = mm := ⟨_, rfl⟩
  rw [hmm]
  have HMM := Lib.hid hmm
  clear hmm
  cases mm
  · go_wp2
    go_ret
    exact ⟨rfl, HB2.out⟩
  have HT := Lib.hid (few_told HFW.out HMM.out HF.out)
  go_wp2_with fail
  refine (Print_calls Ev ts A n c _ HS2.out HT.out.fit HT.out.refs HT.out.len).mono ?_
  rintro e w3 ⟨rfl, hb3⟩
  have HB3 := Lib.hid (keepB HB2.out hb3)
  have HS3 := Lib.hid (types_below HS2.out hb3)
  have hg3 := (hb3.block _ (lt_of_heap HG2.out)).trans HG2.out
  have HG3 := Lib.hid hg3
  have s0 := cells_of hg3 0 (.slice A n c) rfl
  clear hb3 hg3
  have HBK := Lib.hid (fun h => back HT.out.may h)
  have hsp := sz (printP ts)
  have hpl : (printP ts).length ≤ 10000000000000 := by
    have := HT.out.len
    unfold printP
    split
    · exact this
    · simp
  generalize printP ts = pt at *
  by_cases hbig : 4096 < pt.length
  · go_wp2
    go_ret
    exact ⟨rfl, HB3.out⟩
  obtain ⟨ts', hp1, hp2, hp3, hp4, hp5⟩ := HBK.out (by omega)
  have HP2 := Lib.hid hp2
  have P2 := Lib.hid (fun w => Parse_calls pt w (by omega))
  rw [hp1] at P2
  clear hp1 hp2 hp3 hp4 hp5
  go_wp2_with fail
  refine (P2.out _).mono ?_
  intro e w4 h4
  obtain ⟨hb4, A', n', c', rfl, hs4⟩ := par_ok h4
  have HB4 := Lib.hid (keepB HB3.out hb4)
  have HS4 := Lib.hid (types_below HS3.out hb4)
  have HS4' := Lib.hid hs4
  have hg4 := (hb4.block _ (lt_of_heap HG3.out)).trans HG3.out
  have HKB := Lib.hid (((Below.refl w4.heap.size w4).alloc (Nat.le_refl _) (.cells #[.slice A' n' c'] 25)).alloc (by simp) (.cells #[.int .i64 0, .int .i64 0, .int .i64 0] 28))
  have k0 := heap_alloc_new w4 (.cells #[.slice A' n' c'] 25)
  have k1 := heap_alloc_new (w4.alloc (.cells #[.slice A' n' c'] 25)) (.cells #[.int .i64 0, .int .i64 0, .int .i64 0] 28)
  rw [show (w4.alloc (.cells #[.slice A' n' c'] 25)).heap.size = w4.heap.size + 1 by simp] at k1
  have k0' := (alloc_old (.cells #[.int .i64 0, .int .i64 0, .int .i64 0] 28) (lt_of_heap k0)).trans k0
  have hg5 := (HKB.out.block _ (lt_of_heap hg4)).trans hg4
  have s1 := cells_of hg5 0 (.slice A n c) rfl
  have s2 := cells_of k0' 0 (.slice A' n' c') rfl
  have HK0 := Lib.hid k0'
  have HK1 := Lib.hid k1
  clear h4 hb4 hs4 hg4 hg5 k0 k0' k1 s0
  go_wp2_with fail
  refine (Schemas_calls _ _ ts' ts _ _ _ ⟨A', n', c', rfl, types_below HS4'.out HKB.out⟩ ⟨A, n, c, rfl, types_below HS4.out HKB.out⟩).mono ?_
  rintro e w5 ⟨rfl, hb5⟩
  rw [HP2.out]
  have HB5 := Lib.hid (keepB HB4.out (below_then HKB.out HKB.out.size hb5))
  obtain ⟨j1, j2, j3⟩ := three_of ((hb5.block _ (lt_of_heap HK1.out)).trans HK1.out)
  clear hb5 s1 s2
  go_wp2
  go_ret
  exact ⟨rfl, HB5.out⟩
end Go.Proofs.YtgmlcnikphbiiaaDoor.L

/-
  A relation as a line: the walk.
-/
import Derived.Test.YtgmlcnikphbiiaaDoorLangPl
namespace Go.Proofs.YtgmlcnikphbiiaaDoor.L
open Go.RowKit Go.Proofs.YtgmlcnikphbiiaaDoor.B Go.Proofs.YtgmlcnikphbiiaaDoor.S10 Go.Proofs.YtgmlcnikphbiiaaDoor.Nm
open Go.Proofs.YtgmlcnikphbiiaaDoor.C (QRow Turn wpList_append_q)
set_option linter.unusedVariables false
set_option linter.unusedSimpArgs false

set_option maxRecDepth 100000 in
set_option maxHeartbeats 4000000 in
theorem line_rel (F : Nat → Prop) (x : Rl) (A : Option Addr) (n c : Nat) (k : Int) (a b : Bs) (B : Option Addr) (m d : Nat) (w : World) (hm : mayR x = true) (hr : x.refs ≠ []) (hn : n ≤ 100000) (h1 : SlV w F 2 RefR x.refs A n) :
    Calls Tryd.prog 33 #[rlAgg x.name A n c k a b B m d] w (ShowRet w (lineT x)) := by
  have hl := h1.1
  have hpos : 0 < n := by rw [← hl]; exact List.length_pos_iff.2 hr
  have hne : x.refs.isEmpty = false := by cases hx : x.refs with
    | nil => exact absurd hx hr
    | cons y l => rfl
  have hm2 := hm
  unfold mayR at hm2
  rw [hne, Bool.and_eq_true] at hm2
  have hall : x.refs.all mayF = true := hm2.2
  have hnl := (nm_len hm2.1).2
  have hsl := refsT_len x.refs hall
  rw [hl] at hsl
  have HL := Lib.hid (show lineT x = relationB ++ x.name ++ [58, 32] ++ refsT x.refs ++ [10] by unfold lineT; rw [hne]; rfl)
  rw [HL.out]
  have HM := Lib.hid (fun j (hj : j < n) => refT_len (List.all_eq_true.1 hall (rfAt x.refs j) (by unfold rfAt; rw [List.getD_eq_getElem?_getD, List.getElem?_eq_getElem (by omega)]; exact List.getElem_mem _)))
  have HJ : Hid (∀ (W : World) A' c', QRow W 9 1 (.slice A' n c') n (strsT x.refs n) → Calls Tryd.prog 59 #[.slice A' n c', .string ⟨#[32, 124, 32]⟩] W (ShowRet W (refsT x.refs))) :=
    Lib.hid (fun W A' c' hq => by
      have := join_calls (wr := W) (c := c') (A := A') hr hall (by omega) (by rw [hl]; exact hq)
      rw [hl] at this
      exact this)
  have S := Lib.hid h1
  have HLEN := Lib.hid hl
  obtain ⟨i0, hi, hz0, hz1, hz2⟩ := info_parts infoStr
  have HI := Lib.hid hi
  have HZ0 := Lib.hid hz0
  have HZ1 := Lib.hid hz1
  have HZ2 := Lib.hid hz2
  have hn1 : ((n : Int) == 0) = false := by simp; omega
  have HS0 : Hid (LS w (rlCells x.name A n c k a b B m d) x.refs 0 none 0 (w.alloc (.cells (rlCells x.name A n c k a b B m d) 48))) := Lib.hid LS.start
  generalize x.name = nx at *
  generalize refsT x.refs = rt at *
  have q1 : ¬ 9223372036854775807 < 11 + nx.length := by omega
  have q2 : ¬ 9223372036854775807 < 11 + nx.length + 2 := by omega
  have q3 : ¬ 9223372036854775807 < 11 + nx.length + 2 + rt.length := by omega
  have q4 : ¬ 9223372036854775807 < 11 + nx.length + 2 + rt.length + 1 := by omega
  have hsz := sz nx
  have hsz2 := sz rt
  have g1 := heap_alloc_new w (.cells (rlCells nx A n c k a b B m d) 48)
  obtain ⟨b0, b1, -⟩ := six_of g1
  clear hm hr h1 hl hne hm2 hall HL hi hz0 hz1 hz2 g1 hsl
  go_enter Tryd.func33, Tryd.ntmps33
  go_wp2_with fail
  go_loopw [3, 5, 22] (fun v3 v5 v22 wr => ∃ (j : Nat) (A' : Option Addr) (c' : Nat), j ≤ n ∧ v3 = .slice A' j c' ∧ v22 = .int .i64 j ∧ Hid (LS w (rlCells nx A n c k a b B m d) x.refs j A' c' wr)) (fun _ _ v22 _ => n - (intOf v22).toNat)
  case atStart => exact ⟨0, none, 0, Nat.zero_le _, rfl, rfl, HS0⟩
  case round =>
    clear HS0 b0 b1
    obtain ⟨j, A', c', hjn, rfl, rfl, HS⟩ := hrel
    by_cases hj : j < n
    · obtain ⟨ad, p, rfl, hp, d0, d1⟩ := ref_cells (S.out.below (by decide) HS.out.bel (fun _ _ h => h)) j hj
      obtain ⟨hl1, hl2, hl3⟩ := HM.out j hj
      have HR := Lib.hid (show refT (rfAt x.refs j) = if (rfAt x.refs j).rel.isEmpty then (rfAt x.refs j).ty else (rfAt x.refs j).ty ++ [35] ++ (rfAt x.refs j).rel from rfl)
      generalize (rfAt x.refs j).ty = r1 at *
      generalize (rfAt x.refs j).rel = r2 at *
      cases he : r2.isEmpty with
      | true =>
        have HE := Lib.hid (show vs r1 = vs (refT (rfAt x.refs j)) by rw [HR.out, if_pos he])
        obtain ⟨hQ, hN⟩ := HS.out.cell (q1 := vs r1) (q2 := vs r2) (z := vs r1)
        have HQ := Lib.hid hQ
        have HN := Lib.hid hN
        clear hQ hN
        go_wp2_with (at_builtin; go_loud (refine wpList_append_q rfl _ _ 96 rfl 9 i0 _ 1 16 Tryd.underlying96 HI.out HZ0.out HZ1.out HZ2.out rfl (by decide) _ j _ rfl HQ.out ⟨wr.heap.size + 1, 0, none⟩ 1 1 [vs r1] rfl rfl HN.out (by intro u hu; simp at hu; subst hu; rfl) (by unfold maxLen; omega) (by omega) ?_))
        intro v6 w6 hq hg hbk
        obtain ⟨A6, c6, rfl⟩ := QRow.form hq
        have HS6 := Lib.hid (HS.out.push (by rw [HLEN.out]; exact hj) HE.out hq hg (fun g h => by have := hbk g h; simpa using this))
        clear hq hg hbk
        go_wp2
        exact ⟨⟨j + 1, A6, c6, by omega, rfl, by go_num, HS6⟩, by simp [intOf]; omega⟩
      | false =>
        have HE := Lib.hid (show Value.string (⟨r1.toArray⟩ ++ ⟨#[35]⟩ ++ ⟨r2.toArray⟩) = vs (refT (rfAt x.refs j)) by rw [HR.out, if_neg (by rw [he]; simp)]; rfl)
        obtain ⟨hQ, hN⟩ := HS.out.cell (q1 := vs r1) (q2 := vs r2) (z := .string (⟨r1.toArray⟩ ++ ⟨#[35]⟩ ++ ⟨r2.toArray⟩))
        have HQ := Lib.hid hQ
        have HN := Lib.hid hN
        have p1 : ¬ 9223372036854775807 < r1.length + 1 := by omega
        have p2 : ¬ 9223372036854775807 < r1.length + 1 + r2.length := by omega
        have hs1 := sz r1
        have hs2 := sz r2
        clear hQ hN
        go_wp2_with (at_builtin; go_loud (refine wpList_append_q rfl _ _ 96 rfl 9 i0 _ 1 16 Tryd.underlying96 HI.out HZ0.out HZ1.out HZ2.out rfl (by decide) _ j _ rfl HQ.out ⟨wr.heap.size + 1, 0, none⟩ 1 1 [.string (⟨r1.toArray⟩ ++ ⟨#[35]⟩ ++ ⟨r2.toArray⟩)] rfl rfl HN.out (by intro u hu; simp at hu; subst hu; rfl) (by unfold maxLen; omega) (by omega) ?_))
        intro v6 w6 hq hg hbk
        obtain ⟨A6, c6, rfl⟩ := QRow.form hq
        have HS6 := Lib.hid (HS.out.push (by rw [HLEN.out]; exact hj) HE.out hq hg (fun g h => by have := hbk g h; simpa using this))
        clear hq hg hbk
        go_wp2
        exact ⟨⟨j + 1, A6, c6, by omega, rfl, by go_num, HS6⟩, by simp [intOf]; omega⟩
    · have hjn' : j = n := by omega
      subst hjn'
      obtain ⟨b0, b1, b2, b3, b4, b5, -⟩ := six_of HS.out.box
      have HJ1 := Lib.hid (HJ.out wr.drew A' c' (HS.out.row.kept (fun _ _ => rfl)))
      have HB := Lib.hid (below_drewN HS.out.bel 1)
      have HBX := Lib.hid (fun w1 (hb : Below wr.drew.heap.size wr.drew w1) => (hb.block w.heap.size (lt_of_heap HS.out.box)).trans HS.out.box)
      go_wp2_with fail
      go_region_held3 (fun W => W.cell? ⟨w.heap.size, 0, none⟩ = some (vs nx) ∧ W.cell? ⟨w.heap.size, 1, none⟩ = some (.slice A j c)) (go_keep)
        (first
        | ((with_reducible refine (HJ1.out).mono ?_); rintro e w1 ⟨rfl, hb⟩
           obtain ⟨t0, t1, -⟩ := six_of (HBX.out w1 hb)
           have HB1 := Lib.hid (keepB HB.out hb)
           clear hb))
      all_goals
        go_wp2
        go_ret
        exact ⟨rfl, HB1.out⟩
end Go.Proofs.YtgmlcnikphbiiaaDoor.L

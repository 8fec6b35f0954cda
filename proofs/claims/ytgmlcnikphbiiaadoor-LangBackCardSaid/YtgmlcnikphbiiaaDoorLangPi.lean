/-
  What may be printed: ContainsFunc over relations, May.
-/
import Derived.Test.YtgmlcnikphbiiaaDoorLangPh
namespace Go.Proofs.YtgmlcnikphbiiaaDoor.L
open Go.RowKit Go.Proofs.YtgmlcnikphbiiaaDoor.B Go.Proofs.YtgmlcnikphbiiaaDoor.S10 Go.Proofs.YtgmlcnikphbiiaaDoor.Nm
open Go.Proofs.YtgmlcnikphbiiaaDoor.C (QRow Turn wpList_append_q)
set_option linter.unusedVariables false
set_option linter.unusedSimpArgs false

set_option maxRecDepth 100000 in
set_option maxHeartbeats 4000000 in
theorem idxRel_calls (F : Nat → Prop) (xs : List Rl) (A : Option Addr) (n c : Nat) (w : World) (h : SlV w F 6 (RelR w F) xs A n) (hf : ∀ i, FitR (rlAt xs i)) :
    Calls Tryd.prog 64 #[.slice A n c, .func (.func 38) #[] #[]] w (IdxRet w n (allTo (n := n) (fun i => mayR (rlAt xs i)) n)) := by
  have hnl := h.2.1
  have S := Lib.hid h
  have HF := Lib.hid hf
  clear h hf
  go_enter Tryd.func64, Tryd.ntmps64
  go_wp2_with fail
  go_loopw [5, 8] (fun v5 v8 wr => ∃ j : Nat, j ≤ n ∧ v8 = .int .i64 j ∧ Hid (allTo (n := n) (fun i => mayR (rlAt xs i)) j = true) ∧ Hid (Below w.heap.size w wr)) (fun _ v8 _ => n - (intOf v8).toNat)
  case atStart => exact ⟨0, Nat.zero_le _, rfl, Lib.hid rfl, Lib.hid (Below.refl _ _)⟩
  case round =>
    obtain ⟨j, hjn, rfl, HALL, HB⟩ := hrel
    by_cases hj : j < n
    · obtain ⟨ad, p, B, m, d, k, a, b, B', m', d', rfl, hp, d0, d1, d2, d3, d4, d5, hr, hx⟩ := rel_cells (rels_below S.out HB.out) j hj
      have HST := Lib.hid (allTo_step (n := n) (fun i => mayR (rlAt xs i)) hj)
      have HAF := Lib.hid (allTo_false (n := n) (fun i => mayR (rlAt xs i)) n hj hj)
      have HC := Lib.hid (notRel_calls F (rlAt xs j) B m d k a b B' m' d' wr (HF.out j) hr hx)
      generalize (rlAt xs j).name = nx at *
      obtain ⟨mm, hm⟩ : ∃ mm, mayR (rlAt xs j) = mm := ⟨_, rfl⟩
      rw [hm] at HC
      have HMM := Lib.hid hm
      clear hm hr hx
      go_wp2_with fail
      refine HC.out.mono ?_
      rintro e w1 ⟨rfl, hb⟩
      have HB1 := Lib.hid (keepB HB.out hb)
      clear hb
      cases mm
      · go_wp2
        go_ret
        exact ⟨j, rfl, by omega, by omega, by rw [HAF.out HMM.out]; simp, HB1.out⟩
      · go_wp2
        exact ⟨⟨j + 1, by omega, by go_num, Lib.hid (by rw [HST.out, HALL.out]; show (true && mayR (rlAt xs j)) = true; rw [HMM.out]; rfl), HB1⟩, by simp [intOf]; omega⟩
    · have hjn' : j = n := by omega
      subst hjn'
      go_wp2
      go_ret
      exact ⟨-1, rfl, by omega, by omega, by rw [HALL.out]; rfl, HB.out⟩
set_option maxRecDepth 100000 in
set_option maxHeartbeats 1000000 in
theorem anyRel_calls (F : Nat → Prop) (xs : List Rl) (A : Option Addr) (n c : Nat) (w : World) (h : SlV w F 6 (RelR w F) xs A n) (hf : ∀ i, FitR (rlAt xs i)) :
    Calls Tryd.prog 37 #[.slice A n c, .func (.func 38) #[] #[]] w (BRet w (!xs.all mayR)) := by
  have HI := Lib.hid (idxRel_calls F xs A n c w h hf)
  have HA := Lib.hid (show xs.all mayR = allTo (n := n) (fun i => mayR (rlAt xs i)) n by rw [allTo_all xs ⟨[], [], leaf 0 [] []⟩ mayR, h.1]; rfl)
  clear h hf
  go_enter Tryd.func37, Tryd.ntmps37
  go_wp2_with fail
  refine HI.out.mono ?_
  rintro e w1 ⟨r, rfl, h1, h2, h3, hb⟩
  have HB := Lib.hid hb
  have H3 := Lib.hid h3
  clear hb h3
  go_wp2
  go_ret
  refine ⟨?_, HB.out⟩
  rw [HA.out, ← H3.out]
  rfl
def FitT (t : Ty) : Prop := t.name.length ≤ 9223372036854775807 ∧ ∀ i, FitR (rlAt t.rels i)
def FitS (ts : List Ty) : Prop := ∀ i, FitT (tyAt ts i)
set_option maxRecDepth 100000 in
set_option maxHeartbeats 4000000 in
theorem May_calls (F : Nat → Prop) (ts : List Ty) (A : Option Addr) (n c : Nat) (w : World) (h : SlV w F 2 (TyR w F) ts A n) (hf : FitS ts) :
    Calls Tryd.prog 16 #[.agg #[.slice A n c]] w (BRet w (mayS ts)) := by
  have hnl := h.2.1
  have S := Lib.hid h
  have HF := Lib.hid hf
  have HA := Lib.hid (show mayS ts = allTo (n := n) (fun i => mayT (tyAt ts i)) n by unfold mayS; rw [allTo_all ts ⟨[], []⟩ mayT, h.1]; rfl)
  rw [HA.out]
  have HB0 := Lib.hid ((Below.refl w.heap.size w).alloc (Nat.le_refl _) (.cells #[.slice A n c] 25))
  clear h hf
  go_enter Tryd.func16, Tryd.ntmps16
  go_wp2_with fail
  go_loopw [4, 8] (fun v4 v8 wr => ∃ j : Nat, j ≤ n ∧ v8 = .int .i64 j ∧ Hid (allTo (n := n) (fun i => mayT (tyAt ts i)) j = true) ∧ Hid (Below w.heap.size w wr)) (fun _ v8 _ => n - (intOf v8).toNat)
  case atStart => exact ⟨0, Nat.zero_le _, rfl, Lib.hid rfl, HB0⟩
  case round =>
    clear HB0
    obtain ⟨j, hjn, rfl, HALL, HB⟩ := hrel
    by_cases hj : j < n
    · obtain ⟨ad, p, B, m, d, rfl, hp, d0, d1, hr⟩ := type_cells (types_below S.out HB.out) j hj
      have HST := Lib.hid (allTo_step (n := n) (fun i => mayT (tyAt ts i)) hj)
      have HAF := Lib.hid (allTo_false (n := n) (fun i => mayT (tyAt ts i)) n hj hj)
      have HNA := Lib.hid (fun W => Name_calls ⟨(tyAt ts j).name.toArray⟩ W (by rw [sz]; exact (HF.out j).1))
      have HN := Lib.hid (show nameB ⟨(tyAt ts j).name.toArray⟩ = nm (tyAt ts j).name from rfl)
      have HT := Lib.hid (show mayT (tyAt ts j) = (nm (tyAt ts j).name && (tyAt ts j).rels.all mayR) from rfl)
      obtain ⟨nx, hnx⟩ : ∃ nx, (tyAt ts j).name = nx := ⟨_, rfl⟩
      rw [hnx] at HNA HN HT d0
      have HC := Lib.hid (anyRel_calls F (tyAt ts j).rels B m d (wr.alloc (.cells #[vs nx, .slice B m d] 35)) (rels_below hr ((Below.refl _ wr).alloc (Nat.le_refl _) _)) (HF.out j).2)
      have HB1 := Lib.hid (belAlloc HB.out (.cells #[vs nx, .slice B m d] 35))
      obtain ⟨mm, hm⟩ : ∃ mm, (tyAt ts j).rels.all mayR = mm := ⟨_, rfl⟩
      obtain ⟨na, hna⟩ : ∃ na, nm nx = na := ⟨_, rfl⟩
      rw [hm] at HC HT
      rw [hna] at HN HT
      clear hm hna hr hnx
      cases na
      · go_wp2_with fail
        refine (HNA.out _).mono ?_
        rintro e w' ⟨rfl, rfl⟩
        rw [HN.out]
        go_wp2
        go_ret
        exact ⟨by rw [HAF.out (by rw [HT.out]; rfl)]; rfl, HB1.out⟩
      · go_wp2_with fail
        refine (HNA.out _).mono ?_
        rintro e w' ⟨rfl, rfl⟩
        rw [HN.out]
        go_wp2_with fail
        refine HC.out.mono ?_
        rintro e w1 ⟨rfl, hb⟩
        have HB2 := Lib.hid (keepB HB1.out hb)
        clear hb
        cases mm
        · go_wp2
          go_ret
          exact ⟨by rw [HAF.out (by rw [HT.out]; rfl)]; rfl, HB2.out⟩
        · go_wp2
          exact ⟨⟨j + 1, by omega, by go_num, Lib.hid (by rw [HST.out, HALL.out]; show (true && mayT (tyAt ts j)) = true; rw [HT.out]; rfl), HB2⟩, by simp [intOf]; omega⟩
    · have hjn' : j = n := by omega
      subst hjn'
      go_wp2
      go_ret
      exact ⟨by rw [HALL.out]; rfl, HB.out⟩
end Go.Proofs.YtgmlcnikphbiiaaDoor.L

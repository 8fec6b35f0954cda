/-
  The statements' own comparison: Schemas.
-/
import Derived.Test.YtgmlcnikphbiiaaDoorLangR
namespace Go.Proofs.YtgmlcnikphbiiaaDoor.L
open Go.RowKit Go.Proofs.YtgmlcnikphbiiaaDoor.B Go.Proofs.YtgmlcnikphbiiaaDoor.S10 Go.Proofs.YtgmlcnikphbiiaaDoor.Nm
open Go.Proofs.YtgmlcnikphbiiaaDoor.C (QRow Turn wpList_append_q)
set_option linter.unusedVariables false
set_option linter.unusedSimpArgs false

def rlAt (xs : List Rl) (i : Nat) : Rl := xs.getD i ⟨[], [], leaf 0 [] []⟩
def tyAt (xs : List Ty) (i : Nat) : Ty := xs.getD i ⟨[], []⟩
def tysB (x y : Ty) : Bool := (x.name == y.name) && ((x.rels.length == y.rels.length) && allTo (n := x.rels.length) (fun i => relsB (rlAt x.rels i) (rlAt y.rels i)) x.rels.length)
def schemasB (xs ys : List Ty) : Bool := (xs.length == ys.length) && allTo (n := xs.length) (fun i => tysB (tyAt xs i) (tyAt ys i)) xs.length
theorem TyR.below {w w' : World} {F : Nat → Prop} {x : Ty} {cs : List Value} (h : TyR w F x cs) (hb : Below w.heap.size w w') : TyR w' F x cs := h.turn (turn_below hb) (fun b hb _ => ⟨fun h => h, hb⟩)
theorem rels_below {w w' : World} {F : Nat → Prop} {xs : List Rl} {A : Option Addr} {n : Nat} (h : SlV w F 6 (RelR w F) xs A n) (hb : Below w.heap.size w w') : SlV w' F 6 (RelR w' F) xs A n := h.below (by decide) hb (fun _ _ hx => hx.below hb)
theorem types_below {w w' : World} {F : Nat → Prop} {xs : List Ty} {A : Option Addr} {n : Nat} (h : SlV w F 2 (TyR w F) xs A n) (hb : Below w.heap.size w w') : SlV w' F 2 (TyR w' F) xs A n := h.below (by decide) hb (fun _ _ hx => hx.below hb)
theorem SchV.below {w w' : World} {F : Nat → Prop} {ts : List Ty} {v : Value} (h : SchV w F ts v) (hb : Below w.heap.size w w') : SchV w' F ts v := by
  obtain ⟨A, n, c, h1, h2⟩ := h
  exact ⟨A, n, c, h1, types_below h2 hb⟩
theorem type_cells {w : World} {F : Nat → Prop} {xs : List Ty} {A : Option Addr} {n : Nat} (h : SlV w F 2 (TyR w F) xs A n) (j : Nat) (hj : j < n) :
    ∃ ad b A' n' c', A = some ad ∧ ad.add (j * 2) = b ∧ w.cell? b = some (vs (tyAt xs j).name) ∧ w.cell? ⟨b.block, b.off + 1, none⟩ = some (.slice A' n' c') ∧ SlV w F 6 (RelR w F) (tyAt xs j).rels A' n' := by
  obtain ⟨ad, b, cs, h1, h2, -, -, h5, h6⟩ := h.2.2 j (tyAt xs j) (getD_some _ (by rw [h.1]; exact hj))
  obtain ⟨A', n', c', rfl, h7⟩ := h6
  have c0 := h5 0 _ rfl
  have c1 := h5 1 _ rfl
  rw [add_zero] at c0
  rw [Addr.add_succ'] at c1
  exact ⟨ad, b, A', n', c', h1, h2, c0, c1, h7⟩
theorem rel_cells {w : World} {F : Nat → Prop} {xs : List Rl} {A : Option Addr} {n : Nat} (h : SlV w F 6 (RelR w F) xs A n) (j : Nat) (hj : j < n) :
    ∃ ad p B m d k a b B' m' d', A = some ad ∧ ad.add (j * 6) = p ∧ w.cell? p = some (vs (rlAt xs j).name) ∧ w.cell? ⟨p.block, p.off + 1, none⟩ = some (.slice B m d) ∧ w.cell? ⟨p.block, p.off + 2, none⟩ = some (.int .i64 k) ∧
      w.cell? ⟨p.block, p.off + 3, none⟩ = some (vs a) ∧ w.cell? ⟨p.block, p.off + 4, none⟩ = some (vs b) ∧ w.cell? ⟨p.block, p.off + 5, none⟩ = some (.slice B' m' d') ∧ SlV w F 2 RefR (rlAt xs j).refs B m ∧ ExV w F (rlAt xs j).ex (exAgg k a b B' m' d') := by
  obtain ⟨ad, p, cs, h1, h2, -, -, h5, h6⟩ := h.2.2 j (rlAt xs j) (getD_some _ (by rw [h.1]; exact hj))
  obtain ⟨B, m, d, k, a, b, B', m', d', rfl, h7, h8⟩ := h6
  have c0 := h5 0 _ rfl
  have c1 := h5 1 _ rfl
  have c2 := h5 2 _ rfl
  have c3 := h5 3 _ rfl
  have c4 := h5 4 _ rfl
  have c5 := h5 5 _ rfl
  rw [add_zero] at c0
  rw [Addr.add_succ'] at c1 c2 c3 c4 c5
  exact ⟨ad, p, B, m, d, k, a, b, B', m', d', h1, h2, c0, c1, c2, c3, c4, c5, h7, h8⟩
set_option maxRecDepth 100000 in
set_option maxHeartbeats 8000000 in
theorem Schemas_calls (F F' : Nat → Prop) (xs ys : List Ty) (v v' : Value) (w : World) (h : SchV w F xs v) (h' : SchV w F' ys v') : Calls Tryd.prog 11 #[v, v'] w (BRet w (schemasB xs ys)) := by
  obtain ⟨A, n, c, rfl, h⟩ := h
  obtain ⟨A', n', c', rfl, h'⟩ := h'
  have hl := h.1
  have hl' := h'.1
  have hnl := h.2.1
  have hnl' := h'.2.1
  have hB : Below w.heap.size w ((w.alloc (.cells #[.slice A n c] 25)).alloc (.cells #[.slice A' n' c'] 25)) := ((Below.refl _ w).alloc (Nat.le_refl _) _).alloc (by simp) _
  have HB := Lib.hid hB
  have S1 := Lib.hid h
  have S2 := Lib.hid h'
  have hR : schemasB xs ys = ((n == n') && allTo (n := n) (fun i => tysB (tyAt xs i) (tyAt ys i)) n) := by
    subst hl
    unfold schemasB
    rw [hl']
  have HR := Lib.hid hR
  clear hR hB h h' hl hl'
  by_cases hnn : n = n'
  · subst hnn
    go_enter Tryd.func11, Tryd.ntmps11
    go_wp2_with fail
    go_loopw [5] (fun v5 wr => ∃ j : Nat, j ≤ n ∧ v5 = .int .i64 j ∧ Hid (allTo (n := n) (fun i => tysB (tyAt xs i) (tyAt ys i)) j = true) ∧ Below ((w.alloc (.cells #[.slice A n c] 25)).alloc (.cells #[.slice A' n c'] 25)).heap.size ((w.alloc (.cells #[.slice A n c] 25)).alloc (.cells #[.slice A' n c'] 25)) wr) (fun v5 _ => n - (intOf v5).toNat)
    case atStart => exact ⟨0, Nat.zero_le _, rfl, Lib.hid rfl, Below.refl _ _⟩
    case round =>
      obtain ⟨j, hjn, rfl, HALL, hb⟩ := hrel
      obtain ⟨g1, g2, hb0⟩ := two_boxes hb
      have HB0 := Lib.hid hb0
      have HBB := Lib.hid hb
      have t0 := cells_of g1 0 (.slice A n c) rfl
      have u0 := cells_of g2 0 (.slice A' n c') rfl
      by_cases hj : j < n
      · obtain ⟨ad, p, B, m, d, rfl, hp, d0, d1, hx⟩ := type_cells (types_below S1.out hb0) j hj
        obtain ⟨ad', p', B', m', d', rfl, hp', e0, e1, hx'⟩ := type_cells (types_below S2.out hb0) j hj
        have HST := Lib.hid (allTo_step (n := n) (fun i => tysB (tyAt xs i) (tyAt ys i)) hj)
        have HAF := Lib.hid (allTo_false (n := n) (fun i => tysB (tyAt xs i) (tyAt ys i)) n hj hj)
        have hl := hx.1
        have hl' := hx'.1
        have hm := hx.2.1
        have hm' := hx'.2.1
        have HX := Lib.hid hx
        have HX' := Lib.hid hx'
        have hTY : tysB (tyAt xs j) (tyAt ys j) = (((tyAt xs j).name == (tyAt ys j).name) && ((m == m') && allTo (n := m) (fun i => relsB (rlAt (tyAt xs j).rels i) (rlAt (tyAt ys j).rels i)) m)) := by
          subst hl
          unfold tysB
          rw [hl']
        have HTY := Lib.hid hTY
        have hsz : w.heap.size + 1 < wr.heap.size := lt_of_heap g2
        have hsz0 : w.heap.size < wr.heap.size := by omega
        have hpb : p.block < wr.heap.size := World.block_lt_of_cell? wr p d0
        have hpb' : p'.block < wr.heap.size := World.block_lt_of_cell? wr p' e0
        clear hTY hl hl' hx hx' hb hb0 g1 g2
        generalize (tyAt xs j).name = q1 at *
        generalize (tyAt ys j).name = q2 at *
        generalize (tyAt xs j).rels = rs at *
        generalize (tyAt ys j).rels = rs' at *
        cases e12 : q1 == q2 with
        | false =>
          have E1 := Lib.hid e12
          go_wp2
          go_ret
          refine ⟨?_, ?_⟩
          · rw [HR.out, HAF.out (by show tysB (tyAt xs j) (tyAt ys j) = false; rw [HTY.out, E1.out]; rfl)]; simp
          · exact (belAlloc (belAlloc HB0.out _) _)
        | true =>
        have E1 := Lib.hid e12
        by_cases hmm : m = m'
        · subst hmm
          go_wp2_with fail
          generalize hwo : wr = wo at *
          have HWO := Lib.hid hwo
          clear hwo
          go_loopw [8, 9] (fun v8 v9 wi => ∃ j2 : Nat, j2 ≤ m ∧ v8 = .int .i64 j2 ∧ Hid (allTo (n := m) (fun i => relsB (rlAt rs i) (rlAt rs' i)) j2 = true) ∧ Below ((wo.alloc (.cells #[vs q1, .slice B m d] 35)).alloc (.cells #[vs q2, .slice B' m d'] 35)).heap.size ((wo.alloc (.cells #[vs q1, .slice B m d] 35)).alloc (.cells #[vs q2, .slice B' m d'] 35)) wi) (fun v8 _ _ => m - (intOf v8).toNat)
          case atStart => exact ⟨0, Nat.zero_le _, rfl, Lib.hid rfl, Below.refl _ _⟩
          case round =>
            obtain ⟨j2, hj2, rfl, HALL2, hbi⟩ := hrel
            obtain ⟨k1, k2, hbi0⟩ := two_boxes hbi
            have HBI := Lib.hid hbi
            have HBI0 := Lib.hid (keepB HB0.out hbi0)
            have HBIO := Lib.hid hbi0
            obtain ⟨x0, x1, -⟩ := two_of k1
            obtain ⟨y0, y1, -⟩ := two_of k2
            by_cases hjm : j2 < m
            · obtain ⟨ar, r, C, cn, cc, rk, ra, rb, C', cn', cc', rfl, hr, r0, r1, r2, r3, r4, r5, hrr, hre⟩ := rel_cells (rels_below HX.out hbi0) j2 hjm
              obtain ⟨ar', r', D, dn, dc, rk', ra', rb', D', dn', dc', rfl, hr', r0', r1', r2', r3', r4', r5', hrr', hre'⟩ := rel_cells (rels_below HX'.out hbi0) j2 hjm
              have HRR := Lib.hid (hrr.drew (by decide))
              have HRE := Lib.hid hre.drew
              have HRR' := Lib.hid (hrr'.drew (by decide))
              have HRE' := Lib.hid hre'.drew
              have HST2 := Lib.hid (allTo_step (n := m) (fun i => relsB (rlAt rs i) (rlAt rs' i)) hjm)
              have HAF2 := Lib.hid (allTo_false (n := m) (fun i => relsB (rlAt rs i) (rlAt rs' i)) m hjm hjm)
              obtain ⟨z, hz⟩ : ∃ z, relsB (rlAt rs j2) (rlAt rs' j2) = z := ⟨_, rfl⟩
              have HZ := Lib.hid hz
              have HN1 := Lib.hid (show ∃ q, (rlAt rs j2).name = q from ⟨_, rfl⟩)
              clear hz hbi hbi0 k1 k2 hrr hre hrr' hre'
              go_wp2_with fail
              go_region_held3 (fun W => W.cell? ⟨wo.heap.size, 1, none⟩ = some (.slice (some ar) m d) ∧ W.cell? ⟨wo.heap.size + 1, 1, none⟩ = some (.slice (some ar') m d') ∧ W.cell? r = some (vs (rlAt rs j2).name) ∧ W.cell? ⟨r.block, r.off + 1, none⟩ = some (.slice C cn cc) ∧ W.cell? ⟨r.block, r.off + 2, none⟩ = some (.int .i64 rk) ∧ W.cell? ⟨r.block, r.off + 3, none⟩ = some (vs ra) ∧ W.cell? ⟨r.block, r.off + 4, none⟩ = some (vs rb) ∧ W.cell? ⟨r.block, r.off + 5, none⟩ = some (.slice C' cn' cc') ∧
                  W.cell? r' = some (vs (rlAt rs' j2).name) ∧ W.cell? ⟨r'.block, r'.off + 1, none⟩ = some (.slice D dn dc) ∧ W.cell? ⟨r'.block, r'.off + 2, none⟩ = some (.int .i64 rk') ∧ W.cell? ⟨r'.block, r'.off + 3, none⟩ = some (vs ra') ∧ W.cell? ⟨r'.block, r'.off + 4, none⟩ = some (vs rb') ∧ W.cell? ⟨r'.block, r'.off + 5, none⟩ = some (.slice D' dn' dc')) (go_keep)
                ((((with_reducible refine (rels_calls F F' (rlAt rs j2) (rlAt rs' j2) C cn cc rk ra rb C' cn' cc' D dn dc rk' ra' rb' D' dn' dc' _ HRR.out HRE.out HRR'.out HRE'.out).mono ?_); rintro e w1 ⟨rfl, hb⟩
                   have hb' : Below wr.heap.size wr w1 := ⟨hb.os, hb.tape, hb.output, hb.size, hb.block⟩
                   have HB1 := Lib.hid (below_then HBI.out HBI.out.size hb')
                   have z0 := keepC hb' x1
                   have z1 := keepC hb' y1
                   have z2 := keepC hb' r0
                   have z3 := keepC hb' r1
                   have z4 := keepC hb' r2
                   have z5 := keepC hb' r3
                   have z6 := keepC hb' r4
                   have z7 := keepC hb' r5
                   have z8 := keepC hb' r0'
                   have z9 := keepC hb' r1'
                   have z10 := keepC hb' r2'
                   have z11 := keepC hb' r3'
                   have z12 := keepC hb' r4'
                   have z13 := keepC hb' r5'
                   rw [HZ.out]
                   clear hb hb')))
              all_goals
                cases z with
                | true =>
                  go_wp2
                  go_roundw
                  case rel => exact ⟨j2 + 1, by omega, by go_num, Lib.hid (by rw [HST2.out, HALL2.out]; show (true && relsB (rlAt rs j2) (rlAt rs' j2)) = true; rw [HZ.out]; rfl), HB1.out⟩
                  case measure => simp [intOf]; omega
                | false =>
                  go_wp2
                  go_ret
                  obtain ⟨-, -, hb1⟩ := two_boxes HB1.out
                  refine ⟨?_, keepB HB0.out hb1⟩
                  rw [HR.out, HAF.out (by show tysB (tyAt xs j) (tyAt ys j) = false; rw [HTY.out, E1.out, HAF2.out (by show relsB (rlAt rs j2) (rlAt rs' j2) = false; exact HZ.out)]; simp)]
                  simp
            · have hjm' : j2 = m := by omega
              subst hjm'
              clear hbi hbi0 k1 k2
              go_wp2
              go_roundw
              case rel =>
                exact ⟨j + 1, by omega, by go_num, Lib.hid (by rw [HST.out, HALL.out]; show (true && tysB (tyAt xs j) (tyAt ys j)) = true; rw [HTY.out, E1.out, HALL2.out]; simp), below_then HBB.out HBB.out.size HBIO.out⟩
              case measure => simp [intOf]; omega
        · have hmm' : ((m : Int) == (m' : Int)) = false := by simp; omega
          have HM := Lib.hid (show (m == m') = false by simpa using hmm)
          clear hmm
          go_wp2
          go_ret
          refine ⟨?_, ?_⟩
          · rw [HR.out, HAF.out (by show tysB (tyAt xs j) (tyAt ys j) = false; rw [HTY.out, E1.out, HM.out]; rfl)]; simp
          · exact (belAlloc (belAlloc HB0.out _) _)
      · have hjn' : j = n := by omega
        subst hjn'
        clear hb hb0 g1 g2
        go_wp2
        go_ret
        exact ⟨by rw [HR.out, HALL.out]; simp, HB0.out⟩
  · have hnn' : ((n : Int) == (n' : Int)) = false := by simp; omega
    have HN := Lib.hid (show (n == n') = false by simpa using hnn)
    clear hnn
    go_enter Tryd.func11, Tryd.ntmps11
    go_wp2
    go_ret
    exact ⟨by rw [HR.out, HN.out]; rfl, HB.out⟩
end Go.Proofs.YtgmlcnikphbiiaaDoor.L

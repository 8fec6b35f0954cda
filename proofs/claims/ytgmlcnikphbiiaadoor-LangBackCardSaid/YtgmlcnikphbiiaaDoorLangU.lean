/-
  The chapter's examples.
-/
import Derived.Test.YtgmlcnikphbiiaaDoorLangS
namespace Go.Proofs.YtgmlcnikphbiiaaDoor.L
open Go.RowKit Go.Proofs.YtgmlcnikphbiiaaDoor.B Go.Proofs.YtgmlcnikphbiiaaDoor.S10 Go.Proofs.YtgmlcnikphbiiaaDoor.Nm
open Go.Proofs.YtgmlcnikphbiiaaDoor.C (QRow Turn wpList_append_q)
set_option linter.unusedVariables false
set_option linter.unusedSimpArgs false

def fitB : Ex → Bool
  | .mk _ a b n kid => decide (a.length ≤ 4096) && (decide (b.length ≤ 4096) && allTo (fun i => fitB (kid i)) n)
theorem fit_of : ∀ e, fitB e = true → e.Fit
  | .mk k a b n kid, h => by
    unfold fitB at h
    simp only [Bool.and_eq_true, decide_eq_true_eq] at h
    refine ⟨by omega, by omega, fun i => fit_of (kid i) ((allTo_iff _).1 h.2.2 i)⟩
def t1 : Bs := [116, 121, 112, 101, 32, 117, 115, 101, 114, 32, 116, 121, 112, 101, 32, 100, 111, 99, 32, 114, 101, 108, 97, 116, 105, 111, 110, 32, 111, 119, 110, 101, 114, 58, 32, 117, 115, 101, 114, 32, 100, 101, 102, 105, 110, 101, 32, 99, 97, 110, 58, 32, 111, 119, 110, 101, 114, 32, 43, 32, 111, 119, 110, 101, 114, 32, 38, 32, 111, 119, 110, 101, 114]
def t2 : Bs := [116, 121, 112, 101, 32, 97, 32, 114, 101, 108, 97, 116, 105, 111, 110]
def e1 : Bs := [40, 111, 119, 110, 101, 114, 32, 43, 32, 40, 111, 119, 110, 101, 114, 32, 38, 32, 111, 119, 110, 101, 114, 41, 41]
def chk1 (r : Except Dg (List Ty)) : Bool := match r with
  | .error _ => false
  | .ok ts => ts.length == 2 && ((tyAt ts 1).rels.length == 2 && (exprP (rlAt (tyAt ts 1).rels 1).ex == e1 && fitB (rlAt (tyAt ts 1).rels 1).ex))
def chk2 (r : Except Dg (List Ty)) : Bool := match r with
  | .error d => d.line == 1 && (d.col == 16 && d.e == 8)
  | .ok _ => false
set_option maxRecDepth 100000 in
theorem chk1_holds : chk1 (parseP t1) = true := by decide +kernel
set_option maxRecDepth 100000 in
theorem chk2_holds : chk2 (parseP t2) = true := by decide +kernel
theorem two_boxes' {w : World} {c1 c2 : Array Value} {t1 t2 : TypeId} {W : World} (hb : Below ((w.alloc (.cells c1 t1)).alloc (.cells c2 t2)).heap.size ((w.alloc (.cells c1 t1)).alloc (.cells c2 t2)) W) :
    W.heap[w.heap.size]? = some (.cells c1 t1 (0, 0)) ∧ W.heap[w.heap.size + 1]? = some (.cells c2 t2 (0, 0)) ∧ Below w.heap.size w W := by
  have h1 := heap_alloc_new w (.cells c1 t1)
  have h2 := heap_alloc_new (w.alloc (.cells c1 t1)) (.cells c2 t2)
  have hs : (w.alloc (.cells c1 t1)).heap.size = w.heap.size + 1 := by simp
  have hs2 : ((w.alloc (.cells c1 t1)).alloc (.cells c2 t2)).heap.size = w.heap.size + 1 + 1 := by simp
  rw [hs] at h2
  exact ⟨(hb.block _ (by omega)).trans ((alloc_old _ (by omega)).trans h1), (hb.block _ (by omega)).trans h2, keepB (((Below.refl _ w).alloc (Nat.le_refl _) _).alloc (by omega) _) hb⟩
theorem par_ok {w : World} {ts : List Ty} {e : Ending} {w' : World} (h : PaRet w (.ok ts) e w') : Below w.heap.size w w' ∧ ∃ A n c, e = .returned (.tuple #[.agg #[.slice A n c], .agg #[.int .i64 0, .int .i64 0, .int .i64 0]]) ∧ SlV w' (fun b => w.heap.size ≤ b) 2 (TyR w' (fun b => w.heap.size ≤ b)) ts A n := by
  obtain ⟨h1, v, h2, A, n, c, rfl, h3⟩ := h
  exact ⟨h1, A, n, c, h2, h3⟩
theorem dgAgg_eq (d : Dg) : dgAgg d = .agg #[.int .i64 d.line, .int .i64 d.col, .int .i64 d.e] := rfl
set_option maxRecDepth 100000 in
set_option maxHeartbeats 4000000 in
theorem awake_calls (w : World) : Calls Tryd.prog 8 #[] w (BRet w true) := by
  have c1 := chk1_holds
  have c2 := chk2_holds
  have P1 := Lib.hid (Parse_calls t1 w (by decide))
  have P2 := Lib.hid (fun w => Parse_calls t2 w (by decide))
  unfold t1 at P1
  unfold t2 at P2
  have hu1 : parseP [116, 121, 112, 101, 32, 117, 115, 101, 114, 32, 116, 121, 112, 101, 32, 100, 111, 99, 32, 114, 101, 108, 97, 116, 105, 111, 110, 32, 111, 119, 110, 101, 114, 58, 32, 117, 115, 101, 114, 32, 100, 101, 102, 105, 110, 101, 32, 99, 97, 110, 58, 32, 111, 119, 110, 101, 114, 32, 43, 32, 111, 119, 110, 101, 114, 32, 38, 32, 111, 119, 110, 101, 114] = parseP t1 := rfl
  have hu2 : parseP [116, 121, 112, 101, 32, 97, 32, 114, 101, 108, 97, 116, 105, 111, 110] = parseP t2 := rfl
  rw [hu1] at P1
  rw [hu2] at P2
  clear hu1 hu2
  generalize parseP t1 = r1 at *
  generalize parseP t2 = r2 at *
  cases r1 with
  | error d => cases c1
  | ok ts =>
  cases r2 with
  | ok ts => cases c2
  | error d =>
  obtain ⟨dl, dc, de⟩ := d
  simp only [chk1, chk2, Bool.and_eq_true, beq_iff_eq] at c1 c2
  obtain ⟨rfl, rfl, rfl⟩ := c2
  obtain ⟨hl1, hl2, hx, hf⟩ := c1
  have HL1 := Lib.hid hl1
  have HL2 := Lib.hid hl2
  have HX := Lib.hid hx
  have HF := Lib.hid (fit_of _ hf)
  clear hl1 hl2 hx hf
  go_enter Tryd.func8, Tryd.ntmps8
  go_wp2_with fail
  refine P1.out.mono ?_
  intro e w1 h1
  obtain ⟨hb1, A, n, c, rfl, hs⟩ := par_ok h1
  have HB1 := Lib.hid hb1
  have HS := Lib.hid hs
  clear P1 h1 hb1 hs
  go_wp2_with fail
  refine (P2.out _).mono ?_
  intro e w2 h2
  obtain ⟨hb2, he⟩ := h2
  obtain rfl : e = .returned (.tuple #[.agg #[.slice none 0 0], .agg #[.int .i64 1, .int .i64 16, .int .i64 8]]) := he
  obtain ⟨g1, g2, hb12⟩ := two_boxes' hb2
  have hb02 := keepB HB1.out hb12
  have hs2 := types_below HS.out hb12
  have hn2 : n = 2 := by rw [← hs2.1]; exact HL1.out
  subst hn2
  obtain ⟨ad, p, B, m, d, rfl, hp, d0, d1, hr⟩ := type_cells hs2 1 (by omega)
  have hm2 : m = 2 := by rw [← hr.1]; exact HL2.out
  subst hm2
  have hp' : p = ⟨ad.block, ad.off + 2, none⟩ := by rw [← hp]; exact Addr.add_succ' ad 1
  subst hp'
  obtain ⟨ar, q, C, cn, cc, rk, ra, rb, C', cn', cc', rfl, hq, r0, r1, r2, r3, r4, r5, hrr, hre⟩ := rel_cells hr 1 (by omega)
  have hq' : q = ⟨ar.block, ar.off + 6, none⟩ := by rw [← hq]; exact Addr.add_succ' ar 5
  subst hq'
  have HB2 := Lib.hid hb02
  have HRE := Lib.hid hre
  have s0 := cells_of g1 0 (.slice (some ad) 2 c) rfl
  obtain ⟨u0, u1, u2⟩ := three_of g2
  have l1 := lt_of_heap g1
  have l2 := lt_of_heap g2
  have l3 := World.block_lt_of_cell? w2 _ d0
  have l4 := World.block_lt_of_cell? w2 _ r0
  clear P2 HS g1 g2 hb2 hb12 hb02 hs2 hr hp hq hrr hre
  have r2' : (((w2.alloc (.cells #[.slice none 0 0] 25)).alloc (.cells #[.int .i64 1, .int .i64 16, .int .i64 8] 28)).alloc (.cells #[.string ⟨(tyAt ts 1).name.toArray⟩, .slice (some ar) 2 d] 35)).cell? ⟨ar.block, ar.off + 6 + 2, none⟩ = some (.int .i64 rk) := cellAlloc (cellAlloc (cellAlloc r2 _) _) _
  have r3' : (((w2.alloc (.cells #[.slice none 0 0] 25)).alloc (.cells #[.int .i64 1, .int .i64 16, .int .i64 8] 28)).alloc (.cells #[.string ⟨(tyAt ts 1).name.toArray⟩, .slice (some ar) 2 d] 35)).cell? ⟨ar.block, ar.off + 6 + 2 + 1, none⟩ = some (vs ra) := cellAlloc (cellAlloc (cellAlloc r3 _) _) _
  have r4' : (((w2.alloc (.cells #[.slice none 0 0] 25)).alloc (.cells #[.int .i64 1, .int .i64 16, .int .i64 8] 28)).alloc (.cells #[.string ⟨(tyAt ts 1).name.toArray⟩, .slice (some ar) 2 d] 35)).cell? ⟨ar.block, ar.off + 6 + 2 + 2, none⟩ = some (vs rb) := cellAlloc (cellAlloc (cellAlloc r4 _) _) _
  have r5' : (((w2.alloc (.cells #[.slice none 0 0] 25)).alloc (.cells #[.int .i64 1, .int .i64 16, .int .i64 8] 28)).alloc (.cells #[.string ⟨(tyAt ts 1).name.toArray⟩, .slice (some ar) 2 d] 35)).cell? ⟨ar.block, ar.off + 6 + 2 + 3, none⟩ = some (.slice C' cn' cc') := cellAlloc (cellAlloc (cellAlloc r5 _) _) _
  have l5 := World.block_lt_of_cell? w2 _ u0
  go_wp2_with fail
  refine (Expr_calls _ _ _ _ (((HRE.out.alloc _).alloc _).alloc _) HF.out).mono ?_
  rintro e w3 ⟨rfl, hb3⟩
  have g0 := heap_alloc_new w2 (.cells #[.slice none 0 0] 25)
  have g1 := heap_alloc_new (w2.alloc (.cells #[.slice none 0 0] 25)) (.cells #[.int .i64 1, .int .i64 16, .int .i64 8] 28)
  have gs : (w2.alloc (.cells #[.slice none 0 0] 25)).heap.size = w2.heap.size + 1 := by simp
  rw [gs] at g1
  have gs2 : ((w2.alloc (.cells #[.slice none 0 0] 25)).alloc (.cells #[.int .i64 1, .int .i64 16, .int .i64 8] 28)).heap.size = w2.heap.size + 1 + 1 := by simp
  have g3 := (hb3.block (w2.heap.size + 1) (by simp)).trans ((alloc_old _ (by rw [gs2]; omega)).trans g1)
  obtain ⟨x0, x1, x2⟩ := three_of g3
  have HB3 : Hid (Below w.heap.size w w3) := Lib.hid (keepB (belAlloc (belAlloc (belAlloc HB2.out _) _) _) hb3)
  rw [HX.out]
  have hq : ((e1 : Bs) == [40, 111, 119, 110, 101, 114, 32, 43, 32, 40, 111, 119, 110, 101, 114, 32, 38, 32, 111, 119, 110, 101, 114, 41, 41]) = true := rfl
  clear g0 g1 gs gs2 g3 hb3
  go_wp2
  go_ret
  exact ⟨rfl, HB3.out⟩
end Go.Proofs.YtgmlcnikphbiiaaDoor.L

/-
  Parse: the deferred closure, the walk.
-/
import Derived.Test.YtgmlcnikphbiiaaDoorLangO
import Derived.Tactics2
import Derived.Defers
import Derived.Recover
import Derived.Laws.Pointers
namespace Go.Proofs.YtgmlcnikphbiiaaDoor.L
open Go.RowKit Go.Proofs.YtgmlcnikphbiiaaDoor.B
open Go.Proofs.YtgmlcnikphbiiaaDoor.C (QRow Turn wpList_append_q)
set_option linter.unusedVariables false
set_option linter.unusedSimpArgs false

theorem assert28 (v : Value) (w : World) : Sem.run Tryd.prog (Instr.typeAssert (.iface 28 v) 20 28 true) w = .ok (.tuple #[v, .bool true]) w := by kernel_rfl
set_option maxRecDepth 100000 in
set_option maxHeartbeats 1000000 in
theorem catch_panicking (p q : Nat) (d : Dg) (older : List PanicEntry) (w : World) {z : Value} {y0 y1 y2 : Value} (hp : w.heap[p]? = some (.cells #[z] 25 (0, 0))) (hq : w.heap[q]? = some (.cells #[y0, y1, y2] 28 (0, 0))) (hpq : p ≠ q) :
    CallsD Tryd.prog 22 #[.pointer (some ⟨p, 0, none⟩), .pointer (some ⟨q, 0, none⟩)] (.panicking ({ v := .iface 28 (dgAgg d), recovered := false } :: older)) w fun e u' w' =>
      e = .returned (.tuple #[]) ∧ u' = .panicking ({ v := .iface 28 (dgAgg d), recovered := true } :: older) ∧ w'.heap[p]? = some (.cells #[.slice none 0 0] 25 (0, 0)) ∧
        w'.heap[q]? = some (.cells #[.int .i64 d.line, .int .i64 d.col, .int .i64 d.e] 28 (0, 0)) ∧ Turn (fun b => b = p ∨ b = q) w w' := by
  refine callsD_of_wpS Tryd.func22 rfl fun c₀ cs hu => ?_
  apply wpS_seq
  apply wpS_region
  simp [wpOpsS, go_sem, recoverD, hu, Tryd.ntmps22, Exit.thenS]
  refine wpS_of_wp ?_
  have hfr : #[Value.pointer (some ⟨p, 0, none⟩), Value.pointer (some ⟨q, 0, none⟩)] ++ ((Array.replicate 16 undef).setIfInBounds 3 (Value.iface 28 (dgAgg d))).setIfInBounds 0 (Value.iface 28 (dgAgg d)) =
    #[Value.pointer (some ⟨p, 0, none⟩), Value.pointer (some ⟨q, 0, none⟩), .iface 28 (dgAgg d), undef, undef, .iface 28 (dgAgg d), undef, undef, undef, undef, undef, undef, undef, undef, undef, undef, undef, undef] := rfl
  rw [hfr]
  clear hfr
  have hpl := lt_of_heap hp
  have hql := lt_of_heap hq
  have a0 := cells_of hp 0 z rfl
  have b0 := frz_of hp 0
  obtain ⟨c0, c1, c2⟩ := three_of hq
  have e0 := frz_of hq 0
  have e1 := frz_of hq 1
  have e2 := frz_of hq 2
  have HP := Lib.hid hp
  have HQ := Lib.hid hq
  have HU := Lib.hid hu
  unfold dgAgg
  have hta := assert28
  clear hp hq hu
  go_wp2
  have hne1 : p ≠ w.heap.size := Nat.ne_of_lt hpl
  have hne2 : q ≠ w.heap.size := Nat.ne_of_lt hql
  have hpost : ∀ W : World, W = (((((w.setCell ⟨p, 0, none⟩ (.slice none 0 0)).setCell ⟨q, 0, none⟩ (.int .i64 d.line)).setCell ⟨q, 1, none⟩ (.int .i64 d.col)).setCell ⟨q, 2, none⟩ (.int .i64 d.e)).alloc (.cells #[.int .i64 d.line, .int .i64 d.col, .int .i64 d.e] 28)).drew →
      W.heap[p]? = some (.cells #[.slice none 0 0] 25 (0, 0)) ∧ W.heap[q]? = some (.cells #[.int .i64 d.line, .int .i64 d.col, .int .i64 d.e] 28 (0, 0)) ∧ Turn (fun b => b = p ∨ b = q) w W := fun W hW => by
    subst hW
    have h1 := heap_setCell_same w p 0 _ _ (.slice none 0 0) HP.out
    have h2 : (w.setCell ⟨p, 0, none⟩ (.slice none 0 0)).heap[q]? = some (.cells #[y0, y1, y2] 28 (0, 0)) := (heap_setCell_other _ _ _ _ (Ne.symm hpq)).trans HQ.out
    have hT1 : Turn (fun b => b = p ∨ b = q) w (w.setCell ⟨p, 0, none⟩ (.slice none 0 0)) := Turn.setCell _ _ _ (.inl rfl)
    have hs1 : (w.setCell ⟨p, 0, none⟩ (.slice none 0 0)).heap.size = w.heap.size := by simp
    generalize w.setCell ⟨p, 0, none⟩ (.slice none 0 0) = V at *
    have h3 := heap_setCell_same _ q 2 _ _ (.int .i64 d.e) (heap_setCell_same _ q 1 _ _ (.int .i64 d.col) (heap_setCell_same V q 0 _ _ (.int .i64 d.line) h2))
    have hT2 : Turn (fun b => b = p ∨ b = q) V (((V.setCell ⟨q, 0, none⟩ (.int .i64 d.line)).setCell ⟨q, 1, none⟩ (.int .i64 d.col)).setCell ⟨q, 2, none⟩ (.int .i64 d.e)) :=
      turn_then (turn_then (Turn.setCell _ _ _ (.inr rfl)) (Turn.setCell _ _ _ (.inr rfl))) (Turn.setCell _ _ _ (.inr rfl))
    have h4 : (((V.setCell ⟨q, 0, none⟩ (.int .i64 d.line)).setCell ⟨q, 1, none⟩ (.int .i64 d.col)).setCell ⟨q, 2, none⟩ (.int .i64 d.e)).heap[p]? = some (.cells #[.slice none 0 0] 25 (0, 0)) :=
      (heap_setCell_other _ _ _ _ hpq).trans ((heap_setCell_other _ _ _ _ hpq).trans ((heap_setCell_other _ _ _ _ hpq).trans h1))
    generalize (((V.setCell ⟨q, 0, none⟩ (.int .i64 d.line)).setCell ⟨q, 1, none⟩ (.int .i64 d.col)).setCell ⟨q, 2, none⟩ (.int .i64 d.e)) = V2 at *
    exact ⟨(alloc_old _ (lt_of_heap h4)).trans h4, (alloc_old _ (lt_of_heap h3)).trans h3, Turn.drew (turn_then (turn_then hT1 hT2) (Turn.alloc _ _)) 1⟩
  have HPOST := Lib.hid hpost
  clear hpost
  go_region_with (fail)
  all_goals
    obtain ⟨g1, g2, g3⟩ := HPOST.out _ rfl
    exact ⟨rfl, _, rfl, _, results_none rfl _ _ _, rfl, rfl, g1, g2, g3⟩
set_option maxRecDepth 100000 in
set_option maxHeartbeats 1000000 in
theorem catch_idle (a b : Value) (w : World) :
    CallsD Tryd.prog 22 #[a, b] .returning w fun e u' w' => e = .returned (.tuple #[]) ∧ u' = .returning ∧ w' = w := by
  refine callsD_of_wpS Tryd.func22 rfl fun c₀ cs hu => ?_
  apply wpS_seq
  apply wpS_region
  simp [wpOpsS, go_sem, recoverD, hu, Tryd.ntmps22, Exit.thenS]
  refine wpS_of_wp ?_
  have hfr : #[a, b] ++ ((Array.replicate 16 undef).setIfInBounds 3 Value.nilIface).setIfInBounds 0 Value.nilIface =
    #[a, b, .nilIface, undef, undef, .nilIface, undef, undef, undef, undef, undef, undef, undef, undef, undef, undef, undef, undef] := rfl
  rw [hfr]
  clear hfr
  have HU := Lib.hid hu
  clear hu
  go_wp2
  refine ⟨rfl, .returning, ?_, _, results_none rfl _ _ _, rfl, rfl, rfl⟩
  have hu := HU.out
  cases c₀
  simp_all
def parseP (text : Bs) : Except Dg (List Ty) := if 4096 < text.length then .error ⟨1, 1, 2⟩ else match schemaS (tokens text 1 1) with
  | .error d => .error d
  | .ok (ts, _) => .ok ts
theorem blk_new (w : World) (text : Bs) (h : text.length ≤ 4096) : Blk (w.alloc (.cells #[vs text, .int .i64 1, .int .i64 1, .string ⟨#[]⟩, .int .i64 0, .int .i64 0, .int .i64 0] 56)) w.heap.size text 1 1 [] 0 0 0 := heap_alloc_new w _
theorem res9 {w : World} {p q : Nat} {v a b c : Value} (hp : w.heap[p]? = some (.cells #[v] 25 (0, 0))) (hq : w.heap[q]? = some (.cells #[a, b, c] 28 (0, 0))) (tmps : Array Value) (h2 : tmps.getD 2 undef = .pointer (some ⟨p, 0, none⟩)) (h3 : tmps.getD 3 undef = .pointer (some ⟨q, 0, none⟩)) :
    (results Tryd.f9 tmps).run Tryd.prog w = .ok (.tuple #[.agg #[v], .agg #[a, b, c]]) w := by
  have p0 := cells_of hp 0 v rfl
  obtain ⟨q0, q1, q2⟩ := three_of hq
  have h2' : tmps[2]?.getD undef = .pointer (some ⟨p, 0, none⟩) := by simpa using h2
  have h3' : tmps[3]?.getD undef = .pointer (some ⟨q, 0, none⟩) := by simpa using h3
  simp [results, Tryd.results9, go_sem, h2', h3', p0, q0, q1, q2]
/-- a schema in memory. -/
def SchV (w : World) (F : Nat → Prop) (ts : List Ty) (v : Value) : Prop := ∃ A n c, v = .agg #[.slice A n c] ∧ SlV w F 2 (TyR w F) ts A n
theorem SchV.nil (w : World) (F : Nat → Prop) : SchV w F [] (.agg #[.slice none 0 0]) := ⟨none, 0, 0, rfl, rfl, by omega, fun k x hx => by simp at hx⟩
def PaRet (w : World) (r : Except Dg (List Ty)) (e : Ending) (w' : World) : Prop := Below w.heap.size w w' ∧ match r with
  | .error d => e = .returned (.tuple #[.agg #[.slice none 0 0], dgAgg d])
  | .ok ts => ∃ v, e = .returned (.tuple #[v, dgAgg ⟨0, 0, 0⟩]) ∧ SchV w' (fun b => w.heap.size ≤ b) ts v
theorem store_pq {w : World} {p q : Nat} {z y0 y1 y2 : Value} (hp : w.heap[p]? = some (.cells #[z] 25 (0, 0))) (hq : w.heap[q]? = some (.cells #[y0, y1, y2] 28 (0, 0))) (hpq : p ≠ q) (x a b c : Value) :
    ((((w.setCell ⟨p, 0, none⟩ x).setCell ⟨q, 0, none⟩ a).setCell ⟨q, 1, none⟩ b).setCell ⟨q, 2, none⟩ c).heap[p]? = some (.cells #[x] 25 (0, 0)) ∧
    ((((w.setCell ⟨p, 0, none⟩ x).setCell ⟨q, 0, none⟩ a).setCell ⟨q, 1, none⟩ b).setCell ⟨q, 2, none⟩ c).heap[q]? = some (.cells #[a, b, c] 28 (0, 0)) ∧
    Turn (fun b => b = p ∨ b = q) w ((((w.setCell ⟨p, 0, none⟩ x).setCell ⟨q, 0, none⟩ a).setCell ⟨q, 1, none⟩ b).setCell ⟨q, 2, none⟩ c) := by
  have h1 := heap_setCell_same w p 0 _ _ x hp
  have h2 : (w.setCell ⟨p, 0, none⟩ x).heap[q]? = some (.cells #[y0, y1, y2] 28 (0, 0)) := (heap_setCell_other _ _ _ _ (Ne.symm hpq)).trans hq
  have hT1 : Turn (fun b => b = p ∨ b = q) w (w.setCell ⟨p, 0, none⟩ x) := Turn.setCell _ _ _ (.inl rfl)
  generalize w.setCell ⟨p, 0, none⟩ x = V at *
  have h3 := heap_setCell_same _ q 2 _ _ c (heap_setCell_same _ q 1 _ _ b (heap_setCell_same V q 0 _ _ a h2))
  have hT2 : Turn (fun b => b = p ∨ b = q) V (((V.setCell ⟨q, 0, none⟩ a).setCell ⟨q, 1, none⟩ b).setCell ⟨q, 2, none⟩ c) :=
    turn_then (turn_then (Turn.setCell _ _ _ (.inr rfl)) (Turn.setCell _ _ _ (.inr rfl))) (Turn.setCell _ _ _ (.inr rfl))
  exact ⟨(heap_setCell_other _ _ _ _ hpq).trans ((heap_setCell_other _ _ _ _ hpq).trans ((heap_setCell_other _ _ _ _ hpq).trans h1)), h3, turn_then hT1 hT2⟩
theorem leaves_congr {P : Program} {fn : Func} {t1 t2 : Array Value} {R : Ending → World → Prop} (h : results fn t1 = results fn t2) : ∀ (ds : List Deferred) (u : FrameMode) (w : World), Leaves P fn t1 R ds u w → Leaves P fn t2 R ds u w
  | [], .returning, w, h' => by
    unfold Leaves at h' ⊢
    rw [← h]; exact h'
  | [], .panicking _, w, h' => h'
  | [], .run, w, h' => h'
  | d :: ds, u, w, ⟨hu, fv, cap, f, args, ht, hi, hc⟩ => ⟨hu, fv, cap, f, args, ht, hi, hc.mono (fun e u' w' => by
      cases e with
      | returned v => exact leaves_congr h ds _ _
      | panicked c => exact leaves_congr h ds _ _
      | outgrown => exact fun h => h)⟩
theorem panic9 {R : Ending → World → Prop} {K : Act → World → Prop} (i : Nat) (hi : 4 ≤ i) (v : Value) (c : List PanicEntry) (a : Act) (w : World)
    (h : Exit.then K (bodyPostD Tryd.prog Tryd.f9 R) (.panic c) (a.put (some i) v) w) : Exit.then K (bodyPostD Tryd.prog Tryd.f9 R) (.panic c) a w := by
  refine leaves_congr ?_ _ _ _ h
  have e2 : (a.tmps.setIfInBounds i v)[2]? = a.tmps[2]? := Array.getElem?_setIfInBounds_ne (by omega)
  have e3 : (a.tmps.setIfInBounds i v)[3]? = a.tmps[3]? := Array.getElem?_setIfInBounds_ne (by omega)
  simp [results, Tryd.results9, Act.put, e2, e3]
theorem ends_sch {pb : Nat} {op : Int} {w w' : World} {r : R (List Ty)} {e : Ending} (h : Ends pb op w (ScRet w) r e w') :
    (∃ d, r = .error d ∧ e = .panicked (dgChain d) ∧ At pb w w') ∨ (∃ ts l A n c, r = .ok (ts, l) ∧ e = .returned (.agg #[.slice A n c]) ∧ At pb w w' ∧ SlV w' (fun b => w.heap.size ≤ b) 2 (TyR w' (fun b => w.heap.size ≤ b)) ts A n) := by
  obtain ⟨hA, hR⟩ := h
  cases r with
  | error d => exact .inl ⟨d, rfl, hR, hA⟩
  | ok p =>
    obtain ⟨ts, l⟩ := p
    obtain ⟨⟨A, n, c, he, hV⟩, hP⟩ := hR
    exact .inr ⟨ts, l, A, n, c, rfl, he, hA, hV⟩
set_option maxRecDepth 100000 in
set_option maxHeartbeats 1000000 in
theorem Parse_calls (text : Bs) (w : World) (hl : text.length ≤ 100000) : Calls Tryd.prog 9 #[vs text] w (PaRet w (parseP text)) := by
  have hmf : ∀ (fn : Fn) (first cap : Array Value) (w : World), (Instr.makeFunc fn first cap).run Tryd.prog w = .ok (.func fn first cap) w := fun _ _ _ _ => rfl
  have hsz := sz text
  by_cases hlong : 4096 < text.length
  · have HS := Lib.hid (show parseP text = .error ⟨1, 1, 2⟩ by unfold parseP; rw [if_pos hlong])
    go_enter_defers Tryd.func9, Tryd.ntmps9
    go_wp2
    have h1 := heap_alloc_new w (.cells #[.slice none 0 0] 25)
    have h2 := heap_alloc_new (w.alloc (.cells #[.slice none 0 0] 25)) (.cells #[.int .i64 1, .int .i64 1, .int .i64 2] 28)
    have hs : (w.alloc (.cells #[.slice none 0 0] 25)).heap.size = w.heap.size + 1 := by simp
    rw [hs] at h2
    refine ⟨_, res9 ((alloc_old _ (by omega)).trans h1) h2 _ rfl rfl, ?_⟩
    rw [HS.out]
    exact ⟨((Below.refl _ w).alloc (Nat.le_refl _) _).alloc (by omega) _, rfl⟩
  · have HS := Lib.hid (show parseP text = match schemaS (tokens text 1 1) with
      | .error d => .error d
      | .ok (ts, _) => .ok ts by unfold parseP; rw [if_neg hlong])
    go_enter_defers Tryd.func9, Tryd.ntmps9
    go_wp2_with fail
    have h1 := heap_alloc_new w (.cells #[.slice none 0 0] 25)
    have h2 := heap_alloc_new (w.alloc (.cells #[.slice none 0 0] 25)) (.cells #[.int .i64 0, .int .i64 0, .int .i64 0] 28)
    have hs : (w.alloc (.cells #[.slice none 0 0] 25)).heap.size = w.heap.size + 1 := by simp
    rw [hs] at h2
    have hs2 : ((w.alloc (.cells #[.slice none 0 0] 25)).alloc (.cells #[.int .i64 0, .int .i64 0, .int .i64 0] 28)).heap.size = w.heap.size + 1 + 1 := by simp
    have h1' := (alloc_old (.cells #[.int .i64 0, .int .i64 0, .int .i64 0] 28) (by omega : w.heap.size < (w.alloc (.cells #[.slice none 0 0] 25)).heap.size)).trans h1
    have hB : Below w.heap.size w ((w.alloc (.cells #[.slice none 0 0] 25)).alloc (.cells #[.int .i64 0, .int .i64 0, .int .i64 0] 28)) := ((Below.refl _ w).alloc (Nat.le_refl _) _).alloc (by omega) _
    generalize (w.alloc (.cells #[.slice none 0 0] 25)).alloc (.cells #[.int .i64 0, .int .i64 0, .int .i64 0] 28) = V at *
    have hbk := blk_new V text (by omega)
    rw [hs2] at hbk
    refine (step_calls hbk ⟨by omega, by omega, by omega, by omega, by omega⟩).mono ?_
    rintro e w1 ⟨rfl, hP1, hA1⟩
    have hp1 := hA1.kept ((alloc_old _ (by omega)).trans h1') (by omega)
    have hq1 := hA1.kept ((alloc_old _ (by omega)).trans h2) (by omega)
    have hA1' : At (w.heap.size + 1 + 1) V w1 := (Turn.alloc V _).trans hA1 (fun _ h _ => h)
    have HP1 := Lib.hid hP1
    have HA1 := Lib.hid hA1'
    have HB := Lib.hid hB
    have HPC := Lib.hid hp1
    have HQC := Lib.hid hq1
    clear h1 h2 h1' hbk hB hP1 hA1 hA1' hp1 hq1 hs
    have hpbv : w.heap.size + 1 < w.heap.size + 1 + 1 := by omega
    generalize w.heap.size + 1 + 1 = pb at *
    have hkeep : ∀ w5, At pb w1.drew w5 → w5.heap[w.heap.size]? = some (.cells #[.slice none 0 0] 25 (0, 0)) ∧ w5.heap[w.heap.size + 1]? = some (.cells #[.int .i64 0, .int .i64 0, .int .i64 0] 28 (0, 0)) ∧ Below w.heap.size w w5 := fun w5 h5 =>
      ⟨(h5.kept (w := w1.drew) HPC.out (by omega)), (h5.kept (w := w1.drew) HQC.out (by omega)), by
        have hT : At pb V w5 := HA1.out.drew.trans h5
        exact HB.out.trans (Turn.below hT (by omega) (fun k hk e => by omega))⟩
    have HKEEP := Lib.hid hkeep
    have hq1 := HQC.out
    obtain ⟨q0, q1, q2⟩ := three_of hq1
    clear hkeep hq1
    go_wp2_with fail
    have hfin : ∀ (w5 : World) ts (l : List Tk) A n c, (schemaS (tokens text 1 1) = .ok (ts, l) ∧ SlV w5 (fun b => w1.drew.heap.size ≤ b) 2 (TyR w5 (fun b => w1.drew.heap.size ≤ b)) ts A n ∧ Below w.heap.size w w5 ∧ w5.heap[w.heap.size]? = some (.cells #[.slice none 0 0] 25 (0, 0)) ∧ w5.heap[w.heap.size + 1]? = some (.cells #[.int .i64 0, .int .i64 0, .int .i64 0] 28 (0, 0))) →
        ∀ W, W = ((((w5.setCell ⟨w.heap.size, 0, none⟩ (.slice A n c)).setCell ⟨w.heap.size + 1, 0, none⟩ (.int .i64 0)).setCell ⟨w.heap.size + 1, 1, none⟩ (.int .i64 0)).setCell ⟨w.heap.size + 1, 2, none⟩ (.int .i64 0)) →
        W.heap[w.heap.size]? = some (.cells #[.slice A n c] 25 (0, 0)) ∧ W.heap[w.heap.size + 1]? = some (.cells #[.int .i64 0, .int .i64 0, .int .i64 0] 28 (0, 0)) ∧
          PaRet w (parseP text) (.returned (.tuple #[.agg #[.slice A n c], .agg #[.int .i64 0, .int .i64 0, .int .i64 0]])) W := by
      rintro w5 ts l A n c ⟨ho, hV, hb5, hp5, hq5⟩ W rfl
      obtain ⟨e1, e2, hT⟩ := store_pq hp5 hq5 (by omega) (.slice A n c) (.int .i64 0) (.int .i64 0) (.int .i64 0)
      have hl1 : pb < w1.heap.size := HP1.out.lt
      have hl1' : pb < w1.drew.heap.size := hl1
      refine ⟨e1, e2, ?_⟩
      rw [HS.out, ho]
      refine ⟨hb5.trans (Turn.below hT hb5.size (fun k hk e => by omega)), _, rfl, A, n, c, rfl, ?_⟩
      exact hV.keep (by decide) (fun b hb _ => by omega) (turn_cell hT (fun b hb _ e => by omega)) (fun y ys hy => hy.turn hT (fun b hb _ => ⟨fun e => by omega, by omega⟩))
    have HFIN := Lib.hid hfin
    clear hfin
    refine wp_region_any (by kernel_rfl) ?_
    change wpAny _ _ _ _ _ _ _ (World.drew _)
    refine wpAny_take (i := 0) (v := ?_) rfl (by kernel_rfl) (by kernel_rfl) (by kernel_rfl) (fun c a w h => panic9 19 (by decide) _ c a w h) (Or.inl ⟨by kernel_rfl, ?_⟩) ?_
    rotate_left
    · (intro w0; go_simp; try with_reducible rfl)
    try simp only [Act.put, List.getElem_toArray, List.getElem_cons_zero, List.getElem_cons_succ, List.setIfInBounds_toArray, List.set_cons_zero, List.set_cons_succ]
    refine wpAny_ready (rs := [1, 2]) (by kernel_rfl) (by simp) ?_
    refine (AllReady.cons rfl (fun K hK => ?_) (AllReady.cons rfl (fun K hK => ?_) AllReady.nil))
    · go_simp
      refine (schema_calls (HP1.out.kept (w' := w1.drew) rfl)).mono ?_
      intro e5 w5 h5
      obtain ⟨hp5, hq5, hb5⟩ := HKEEP.out _ h5.1
      rcases ends_sch h5 with ⟨d, ho, rfl, hA5⟩ | ⟨ts, l, A, n, c, ho, rfl, hA5, hV⟩
      · refine leaves_cons (f := 22) (args := #[.pointer (some ⟨w.heap.size, 0, none⟩), .pointer (some ⟨w.heap.size + 1, 0, none⟩)]) (by simp) (by simp [go_sem]) ?_
        exact (catch_panicking w.heap.size (w.heap.size + 1) d [] w5 hp5 hq5 (by omega)).mono (by
          rintro e u' w' ⟨rfl, rfl, hp', hq', hT⟩
          refine ⟨_, res9 hp' hq' _ rfl rfl, ?_⟩
          rw [HS.out, ho]
          exact ⟨hb5.trans (Turn.below hT hb5.size (fun k hk e => by omega)), rfl⟩)
      have H5 := Lib.hid (And.intro ho (And.intro hV (And.intro hb5 (And.intro hp5 hq5))))
      have p0 := cells_of hp5 0 _ rfl
      obtain ⟨c0, c1, c2⟩ := three_of hq5
      have f0 := frz_of hp5 0
      have f1 := frz_of hq5 0
      have f2 := frz_of hq5 1
      have f3 := frz_of hq5 2
      clear h5 ho hA5 hV hp5 hq5 hb5
      go_simp
      refine hK _ _ ?_
      clear hK K
      try simp only [Act.put, List.getElem_toArray, List.getElem_cons_zero, List.getElem_cons_succ, List.setIfInBounds_toArray, List.set_cons_zero, List.set_cons_succ]
      refine wpAny_ready (rs := [2, 3]) (by kernel_rfl) (by simp) ?_
      refine (AllReady.cons rfl (fun K hK => ?_) (AllReady.cons rfl (fun K hK => ?_) AllReady.nil))
      · go_simp
        refine hK _ _ ?_
        clear hK K
        try simp only [Act.put, List.getElem_toArray, List.getElem_cons_zero, List.getElem_cons_succ, List.setIfInBounds_toArray, List.set_cons_zero, List.set_cons_succ]
        refine wpAny_ready (rs := [3]) (by kernel_rfl) (by simp) ?_
        refine (AllReady.cons rfl (fun K hK => ?_) AllReady.nil)
        go_simp
        refine hK _ _ ?_
        clear hK K
        try simp only [Act.put, List.getElem_toArray, List.getElem_cons_zero, List.getElem_cons_succ, List.setIfInBounds_toArray, List.set_cons_zero, List.set_cons_succ]
        refine wpAny_ready (rs := [4]) (by kernel_rfl) (by simp) ?_
        refine (AllReady.cons rfl (fun K hK => ?_) AllReady.nil)
        go_simp
        refine hK _ _ ?_
        clear hK K
        try simp only [Act.put, List.getElem_toArray, List.getElem_cons_zero, List.getElem_cons_succ, List.setIfInBounds_toArray, List.set_cons_zero, List.set_cons_succ]
        refine wpAny_done (by kernel_rfl) ?_ _
        go_wp2
        refine leaves_cons (f := 22) (args := #[.pointer (some ⟨w.heap.size, 0, none⟩), .pointer (some ⟨w.heap.size + 1, 0, none⟩)]) (by simp) (by simp [go_sem]) ?_
        refine (catch_idle _ _ _).mono ?_
        rintro e u' w'' ⟨rfl, rfl, rfl⟩
        obtain ⟨e1, e2, e3⟩ := HFIN.out _ _ _ _ _ _ H5.out _ rfl
        exact ⟨_, res9 e1 e2 _ rfl rfl, e3⟩
      · go_simp
        refine hK _ _ ?_
        clear hK K
        try simp only [Act.put, List.getElem_toArray, List.getElem_cons_zero, List.getElem_cons_succ, List.setIfInBounds_toArray, List.set_cons_zero, List.set_cons_succ]
        refine wpAny_ready (rs := [2]) (by kernel_rfl) (by simp) ?_
        refine (AllReady.cons rfl (fun K hK => ?_) AllReady.nil)
        go_simp
        refine hK _ _ ?_
        clear hK K
        try simp only [Act.put, List.getElem_toArray, List.getElem_cons_zero, List.getElem_cons_succ, List.setIfInBounds_toArray, List.set_cons_zero, List.set_cons_succ]
        refine wpAny_ready (rs := [4]) (by kernel_rfl) (by simp) ?_
        refine (AllReady.cons rfl (fun K hK => ?_) AllReady.nil)
        go_simp
        refine hK _ _ ?_
        clear hK K
        try simp only [Act.put, List.getElem_toArray, List.getElem_cons_zero, List.getElem_cons_succ, List.setIfInBounds_toArray, List.set_cons_zero, List.set_cons_succ]
        refine wpAny_done (by kernel_rfl) ?_ _
        go_wp2
        refine leaves_cons (f := 22) (args := #[.pointer (some ⟨w.heap.size, 0, none⟩), .pointer (some ⟨w.heap.size + 1, 0, none⟩)]) (by simp) (by simp [go_sem]) ?_
        refine (catch_idle _ _ _).mono ?_
        rintro e u' w'' ⟨rfl, rfl, rfl⟩
        obtain ⟨e1, e2, e3⟩ := HFIN.out _ _ _ _ _ _ H5.out _ rfl
        exact ⟨_, res9 e1 e2 _ rfl rfl, e3⟩
    · go_simp
      refine hK _ _ ?_
      clear hK K
      try simp only [Act.put, List.getElem_toArray, List.getElem_cons_zero, List.getElem_cons_succ, List.setIfInBounds_toArray, List.set_cons_zero, List.set_cons_succ]
      refine wpAny_ready (rs := [1]) (by kernel_rfl) (by simp) ?_
      refine (AllReady.cons rfl (fun K hK => ?_) AllReady.nil)
      go_simp
      refine (schema_calls (HP1.out.kept (w' := w1.drew) rfl)).mono ?_
      intro e5 w5 h5
      obtain ⟨hp5, hq5, hb5⟩ := HKEEP.out _ h5.1
      rcases ends_sch h5 with ⟨d, ho, rfl, hA5⟩ | ⟨ts, l, A, n, c, ho, rfl, hA5, hV⟩
      · refine leaves_cons (f := 22) (args := #[.pointer (some ⟨w.heap.size, 0, none⟩), .pointer (some ⟨w.heap.size + 1, 0, none⟩)]) (by simp) (by simp [go_sem]) ?_
        exact (catch_panicking w.heap.size (w.heap.size + 1) d [] w5 hp5 hq5 (by omega)).mono (by
          rintro e u' w' ⟨rfl, rfl, hp', hq', hT⟩
          refine ⟨_, res9 hp' hq' _ rfl rfl, ?_⟩
          rw [HS.out, ho]
          exact ⟨hb5.trans (Turn.below hT hb5.size (fun k hk e => by omega)), rfl⟩)
      have H5 := Lib.hid (And.intro ho (And.intro hV (And.intro hb5 (And.intro hp5 hq5))))
      have p0 := cells_of hp5 0 _ rfl
      obtain ⟨c0, c1, c2⟩ := three_of hq5
      have f0 := frz_of hp5 0
      have f1 := frz_of hq5 0
      have f2 := frz_of hq5 1
      have f3 := frz_of hq5 2
      clear h5 ho hA5 hV hp5 hq5 hb5
      go_simp
      refine hK _ _ ?_
      clear hK K
      try simp only [Act.put, List.getElem_toArray, List.getElem_cons_zero, List.getElem_cons_succ, List.setIfInBounds_toArray, List.set_cons_zero, List.set_cons_succ]
      refine wpAny_ready (rs := [3]) (by kernel_rfl) (by simp) ?_
      refine (AllReady.cons rfl (fun K hK => ?_) AllReady.nil)
      go_simp
      refine hK _ _ ?_
      clear hK K
      try simp only [Act.put, List.getElem_toArray, List.getElem_cons_zero, List.getElem_cons_succ, List.setIfInBounds_toArray, List.set_cons_zero, List.set_cons_succ]
      refine wpAny_ready (rs := [4]) (by kernel_rfl) (by simp) ?_
      refine (AllReady.cons rfl (fun K hK => ?_) AllReady.nil)
      go_simp
      refine hK _ _ ?_
      clear hK K
      try simp only [Act.put, List.getElem_toArray, List.getElem_cons_zero, List.getElem_cons_succ, List.setIfInBounds_toArray, List.set_cons_zero, List.set_cons_succ]
      refine wpAny_done (by kernel_rfl) ?_ _
      go_wp2
      refine leaves_cons (f := 22) (args := #[.pointer (some ⟨w.heap.size, 0, none⟩), .pointer (some ⟨w.heap.size + 1, 0, none⟩)]) (by simp) (by simp [go_sem]) ?_
      refine (catch_idle _ _ _).mono ?_
      rintro e u' w'' ⟨rfl, rfl, rfl⟩
      obtain ⟨e1, e2, e3⟩ := HFIN.out _ _ _ _ _ _ H5.out _ rfl
      exact ⟨_, res9 e1 e2 _ rfl rfl, e3⟩
end Go.Proofs.YtgmlcnikphbiiaaDoor.L

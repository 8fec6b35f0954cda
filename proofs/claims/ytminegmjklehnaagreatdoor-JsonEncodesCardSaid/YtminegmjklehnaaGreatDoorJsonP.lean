/-
  Decode: the deferred closure, the walk.
-/
import Derived.Test.YtminegmjklehnaaGreatDoorJsonO
import Derived.Tactics2
import Derived.Defers
import Derived.Recover
import Derived.Laws.Pointers
namespace Go.Proofs.YtminegmjklehnaaGreatDoor.J
open Go.RowKit Go.Proofs.YtminegmjklehnaaGreatDoor.B
open Go.Proofs.YtminegmjklehnaaGreatDoor.M hiding Bs
open Go.Proofs.YtminegmjklehnaaGreatDoor.C (QRow Turn)
set_option linter.unusedVariables false
set_option linter.unusedSimpArgs false

theorem assertErr (v : Value) (w : World) : Sem.run Tryz.prog (Instr.typeAssert (.iface 28 v) 20 28 true) w = .ok (.tuple #[v, .bool true]) w := by kernel_rfl
set_option maxRecDepth 100000 in
set_option maxHeartbeats 1000000 in
theorem catch_panicking (p q : Nat) (d : Int) (older : List PanicEntry) (w : World) {x0 x1 x2 x3 x4 y0 : Value} (hp : w.heap[p]? = some (.cells #[x0, x1, x2, x3, x4] 27 (0, 0))) (hq : w.heap[q]? = some (.cells #[y0] 28 (0, 0))) (hpq : p ≠ q) :
    CallsD Tryz.prog 27 #[.pointer (some ⟨p, 0, none⟩), .pointer (some ⟨q, 0, none⟩)] (.panicking ({ v := .iface 28 (.int .i64 d), recovered := false } :: older)) w fun e u' w' =>
      e = .returned (.tuple #[]) ∧ u' = .panicking ({ v := .iface 28 (.int .i64 d), recovered := true } :: older) ∧ w'.heap[p]? = some (.cells (jcs 0 0 [] none 0 0 none 0 0) 27 (0, 0)) ∧
        w'.heap[q]? = some (.cells #[.int .i64 d] 28 (0, 0)) ∧ Turn (fun b => b = p ∨ b = q) w w' := by
  refine callsD_of_wpS Tryz.func27 rfl fun c₀ cs hu => ?_
  apply wpS_seq
  apply wpS_region
  simp [wpOpsS, go_sem, recoverD, hu, Tryz.ntmps27, Exit.thenS]
  refine wpS_of_wp ?_
  have hfr : #[Value.pointer (some ⟨p, 0, none⟩), Value.pointer (some ⟨q, 0, none⟩)] ++ ((Array.replicate 16 undef).setIfInBounds 3 (Value.iface 28 (.int .i64 d))).setIfInBounds 0 (Value.iface 28 (.int .i64 d)) =
    #[Value.pointer (some ⟨p, 0, none⟩), Value.pointer (some ⟨q, 0, none⟩), .iface 28 (.int .i64 d), undef, undef, .iface 28 (.int .i64 d), undef, undef, undef, undef, undef, undef, undef, undef, undef, undef, undef, undef] := rfl
  rw [hfr]
  clear hfr
  have hpl := lt_of_heap hp
  have hql := lt_of_heap hq
  obtain ⟨a0, a1, a2, a3, a4, b0, b1, b2, b3, b4⟩ := five_of hp
  have c0 := cells_of hq 0 y0 rfl
  have e0 := frz_of hq 0
  have hT := set5_turn (fp := fun b => b = p) w p rfl (.int .i64 0) (.int .i64 0) (vs []) (.slice none 0 0) (.slice none 0 0)
  have hP := set5 hp (.int .i64 0) (.int .i64 0) (vs []) (.slice none 0 0) (.slice none 0 0)
  have HPOST := Lib.hid (show ∀ W : World, W = ((((((w.setCell ⟨p, 0, none⟩ (.int .i64 0)).setCell ⟨p, 1, none⟩ (.int .i64 0)).setCell ⟨p, 2, none⟩ (vs [])).setCell ⟨p, 3, none⟩ (.slice none 0 0)).setCell ⟨p, 4, none⟩ (.slice none 0 0)).setCell ⟨q, 0, none⟩ (.int .i64 d)) →
      W.heap[p]? = some (.cells (jcs 0 0 [] none 0 0 none 0 0) 27 (0, 0)) ∧ W.heap[q]? = some (.cells #[.int .i64 d] 28 (0, 0)) ∧ Turn (fun b => b = p ∨ b = q) w W by
    rintro W rfl
    have hQ := (hT.block q hql (fun e => hpq e.symm)).trans hq
    generalize (((((w.setCell ⟨p, 0, none⟩ (.int .i64 0)).setCell ⟨p, 1, none⟩ (.int .i64 0)).setCell ⟨p, 2, none⟩ (vs [])).setCell ⟨p, 3, none⟩ (.slice none 0 0)).setCell ⟨p, 4, none⟩ (.slice none 0 0)) = V at *
    exact ⟨(heap_setCell_other _ _ _ _ hpq).trans hP, heap_setCell_same _ q 0 _ _ _ hQ, turn_then (Turn.mono hT (fun k hk _ => .inl hk)) (Turn.setCell _ _ _ (.inr rfl))⟩)
  have HU := Lib.hid hu
  have hta := assertErr
  clear hp hq hu hT hP
  go_wp2
  obtain ⟨g1, g2, g3⟩ := HPOST.out _ rfl
  exact ⟨rfl, _, rfl, _, results_none rfl _ _ _, rfl, rfl, g1, g2, g3⟩
set_option maxRecDepth 100000 in
set_option maxHeartbeats 1000000 in
theorem catch_idle (a b : Value) (w : World) :
    CallsD Tryz.prog 27 #[a, b] .returning w fun e u' w' => e = .returned (.tuple #[]) ∧ u' = .returning ∧ w' = w := by
  refine callsD_of_wpS Tryz.func27 rfl fun c₀ cs hu => ?_
  apply wpS_seq
  apply wpS_region
  simp [wpOpsS, go_sem, recoverD, hu, Tryz.ntmps27, Exit.thenS]
  refine wpS_of_wp ?_
  have hfr : #[a, b] ++ ((Array.replicate 16 undef).setIfInBounds 3 Value.nilIface).setIfInBounds 0 Value.nilIface =
    #[a, b, .nilIface, undef, undef, .nilIface, undef, undef, undef, undef, undef, undef, undef, undef, undef, undef, undef, undef] := rfl
  rw [hfr]
  clear hfr
  have HU := Lib.hid hu
  clear hu
  go_wp2
  refine ⟨rfl, .returning, ?_, _, results_none rfl _ _ _, rfl, rfl, rfl⟩
  have hu := HU.out
  cases c₀
  simp_all
theorem resJ {w : World} {p q : Nat} {k n : Int} {t : Bs} {A : Option Addr} {an ac : Nat} {B : Option Addr} {bn bc : Nat} {d : Value} (hp : w.heap[p]? = some (.cells (jcs k n t A an ac B bn bc) 27 (0, 0))) (hq : w.heap[q]? = some (.cells #[d] 28 (0, 0))) (tmps : Array Value) (h2 : tmps.getD 2 undef = .pointer (some ⟨p, 0, none⟩)) (h3 : tmps.getD 3 undef = .pointer (some ⟨q, 0, none⟩)) :
    (results Tryz.f7 tmps).run Tryz.prog w = .ok (.tuple #[jAgg k n t A an ac B bn bc, d]) w := by
  obtain ⟨p0, p1, p2, p3, p4, -⟩ := five_of hp
  have q0 := cells_of hq 0 d rfl
  have h2' : tmps[2]?.getD undef = .pointer (some ⟨p, 0, none⟩) := by simpa using h2
  have h3' : tmps[3]?.getD undef = .pointer (some ⟨q, 0, none⟩) := by simpa using h3
  simp [results, Tryz.results7, go_sem, h2', h3', p0, p1, p2, p3, p4, q0]
/-- bytes in memory. -/
def BsV (w : World) (v : Value) (L : Bs) : Prop := (L = [] ∧ ∃ A c, v = .slice A 0 c) ∨ ∃ g off cap, v = .slice (some ⟨g, off, none⟩) L.length cap ∧ ∀ i (hi : i < L.length), w.cell? ⟨g, off + i, none⟩ = some (.int .u8 (L[i].toNat : Int))
theorem BsV.below {w w' : World} {v : Value} {L : Bs} (h : BsV w v L) (hb : Below w.heap.size w w') : BsV w' v L := by
  rcases h with h | ⟨g, off, cap, h1, h2⟩
  · exact .inl h
  · exact .inr ⟨g, off, cap, h1, fun i hi => keepC hb (h2 i hi)⟩
set_option maxRecDepth 100000 in
theorem conv_bytes {w : World} {v : Value} {L : Bs} (h : BsV w v L) : (convert 22 9 v).run Tryz.prog w = .ok (vs L) w := by
  rcases h with ⟨rfl, A, c, rfl⟩ | ⟨g, off, cap, rfl, h⟩
  · cases A with
    | none => exact run_convert_bytes_nil w 22 5 Tryz.underlying22 Tryz.underlying5 _ _ 9 rfl
    | some ad =>
      have hl2 : (loadCells ad 0).run Tryz.prog w = .ok (([] : List Int).map (Value.int .u8)).toArray w := run_loadCells_list (P := Tryz.prog) w ad [] (fun j v h => by simp at h)
      rw [run_convert_bytes_string w 22 9 5 _ 0 c Tryz.underlying22 Tryz.underlying5 rfl, run_bytesToString w _ 0 c _ hl2]
      rfl
  · have hx := run_convert_bytes_arg (P := Tryz.prog) w 22 5 Tryz.underlying22 Tryz.underlying5 g off L.length cap (L.map fun b => (b.toNat : Int)) (by simp) (fun i hi => by
      rw [h i hi]
      simp [List.getD_eq_getElem?_getD, hi]) 9 rfl
    rw [hx]
    have e : strOfNums (L.map fun b => (b.toNat : Int)) = ⟨L.toArray⟩ := by
      unfold strOfNums
      simp [Function.comp_def]
    rw [e]
def DecRet (w : World) (r : Except Int Js) (e : Ending) (w' : World) : Prop := Below w.heap.size w w' ∧ match r with
  | .error d => e = .returned (.tuple #[jAgg 0 0 [] none 0 0 none 0 0, .int .i64 d])
  | .ok j => ∃ v, e = .returned (.tuple #[v, .int .i64 0]) ∧ JsV w' (fun b => w.heap.size ≤ b) j v
abbrev decW (w : World) (b : Bs) : World := ((w.alloc (.cells (jcs 0 0 [] none 0 0 none 0 0) 27)).alloc (.cells #[.int .i64 0] 28)).alloc (.cells #[vs b, .int .i64 0] 47)
theorem dec_start (w : World) (b : Bs) (hb : b.length ≤ 1000000000) : (decW w b).heap[w.heap.size]? = some (.cells (jcs 0 0 [] none 0 0 none 0 0) 27 (0, 0)) ∧ (decW w b).heap[w.heap.size + 1]? = some (.cells #[.int .i64 0] 28 (0, 0)) ∧
    RB (decW w b) (w.heap.size + 1 + 1) b 0 ∧ Below w.heap.size w (decW w b) ∧ (decW w b).heap.size = w.heap.size + 1 + 1 + 1 := by
  have h1 := heap_alloc_new w (.cells (jcs 0 0 [] none 0 0 none 0 0) 27)
  have s1 := asz w (.cells (jcs 0 0 [] none 0 0 none 0 0) 27)
  have h2 := heap_alloc_new (w.alloc (.cells (jcs 0 0 [] none 0 0 none 0 0) 27)) (.cells #[.int .i64 0] 28)
  have s2 := asz (w.alloc (.cells (jcs 0 0 [] none 0 0 none 0 0) 27)) (.cells #[.int .i64 0] 28)
  have h3 := heap_alloc_new ((w.alloc (.cells (jcs 0 0 [] none 0 0 none 0 0) 27)).alloc (.cells #[.int .i64 0] 28)) (.cells #[vs b, .int .i64 0] 47)
  have s3 := asz ((w.alloc (.cells (jcs 0 0 [] none 0 0 none 0 0) 27)).alloc (.cells #[.int .i64 0] 28)) (.cells #[vs b, .int .i64 0] 47)
  rw [s1] at h2 s2
  rw [s2] at h3 s3
  exact ⟨(alloc_old _ (by omega)).trans ((alloc_old _ (by omega)).trans h1), (alloc_old _ (by omega)).trans h2, ⟨h3, hb⟩, (((Below.refl _ w).alloc (Nat.le_refl _) _).alloc (by omega) _).alloc (by omega) _, s3⟩
set_option maxRecDepth 100000 in
set_option maxHeartbeats 4000000 in
theorem Decode_calls {w : World} {v : Value} {b : Bs} (hv : BsV w v b) (hl : b.length ≤ 1000000000) (hT : Tabs w.heap.size w) : Calls Tryz.prog 7 #[v] w (DecRet w (decodeP b)) := by
  have hmf : ∀ (fn : Fn) (first cap : Array Value) (w : World), (Instr.makeFunc fn first cap).run Tryz.prog w = .ok (.func fn first cap) w := fun _ _ _ _ => rfl
  have hcv := conv_bytes (hv.below (((Below.refl _ w).alloc (Nat.le_refl _) (.cells (jcs 0 0 [] none 0 0 none 0 0) 27)).alloc (by rw [asz]; omega) (.cells #[.int .i64 0] 28)))
  have hds := dec_start w b hl
  unfold decW at hds
  obtain ⟨hp, hq, hR, hB, hs⟩ := hds
  have HP := Lib.hid hp
  have HQ := Lib.hid hq
  have HR := Lib.hid hR
  have HB := Lib.hid hB
  have HS := Lib.hid hs
  have HT := Lib.hid hT
  have HD := Lib.hid (show decodeP b = match valueP 12 (sp b) with
    | .error e => .error e
    | .ok (j, L) => if (sp L).isEmpty then .ok j else .error 3 from rfl)
  clear hp hq hR hB hs hT hv hl
  go_enter_defers Tryz.func7, Tryz.ntmps7
  go_wp2_with fail
  generalize (((w.alloc (.cells (jcs 0 0 [] none 0 0 none 0 0) 27)).alloc (.cells #[.int .i64 0] 28)).alloc (.cells #[vs b, .int .i64 0] 47)) = V at *
  have HVC := Lib.hid (show VSpec (valueP 12) 0 from value_calls 12 (by decide))
  clear hcv
  refine (space_calls HR.out).mono ?_
  rintro e w1 ⟨rfl, hR1, hA1⟩
  have HR1 := Lib.hid hR1
  have HA1 := Lib.hid hA1
  have HT1 := Lib.hid (show Tabs (w.heap.size + 1 + 1) w1 by
    obtain ⟨t1, t2, t3⟩ := HT.out.at (rb := w.heap.size) (at_below HB.out)
    exact Tabs.at ⟨t1, by omega, by omega⟩ hA1)
  clear hR1 hA1
  go_wp2_with fail
  refine (HVC.out _ _ _ HR1.out HT1.out).mono ?_
  intro e5 w5 h5
  rcases ends_val h5 with ⟨d, hp, rfl, hA5⟩ | ⟨x, M, xk, xn, xt, xA, xan, xac, xB, xbn, xbc, hp, rfl, hA5, hx5, hR5⟩
  · have hA := At.trans HA1.out hA5
    have hp5 := (hA.block w.heap.size (by rw [HS.out]; omega) (by omega)).trans HP.out
    have hq5 := (hA.block (w.heap.size + 1) (by rw [HS.out]; omega) (by omega)).trans HQ.out
    refine leaves_cons (f := 27) (args := #[.pointer (some ⟨w.heap.size, 0, none⟩), .pointer (some ⟨w.heap.size + 1, 0, none⟩)]) (by simp) (by simp [go_sem]) ?_
    exact (catch_panicking w.heap.size (w.heap.size + 1) d [] w5 hp5 hq5 (by omega)).mono (by
      rintro e u' w' ⟨rfl, rfl, hp', hq', hT⟩
      refine ⟨_, resJ hp' hq' _ rfl rfl, ?_⟩
      rw [HD.out, hp]
      exact ⟨HB.out.trans (Turn.below (turn_then (Turn.mono hA (fun k hk _ => .inl hk)) (Turn.mono hT (fun k hk _ => .inr hk)) : Turn (fun k => k = w.heap.size + 1 + 1 ∨ (k = w.heap.size ∨ k = w.heap.size + 1)) V w') (by rw [HS.out]; omega) (fun k hk e => by omega)), rfl⟩)
  have hA := At.trans HA1.out hA5
  have hp5 := (hA.block w.heap.size (by rw [HS.out]; omega) (by omega)).trans HP.out
  have hq5 := (hA.block (w.heap.size + 1) (by rw [HS.out]; omega) (by omega)).trans HQ.out
  have hB5 : Below w.heap.size w w5 := HB.out.trans (Turn.below hA (by rw [HS.out]; omega) (fun k hk e => by omega))
  have hs1 : w.heap.size + 1 + 1 < w1.heap.size := HR1.out.lt
  have hT := set5_turn (fp := fun b => b = w.heap.size) w5 w.heap.size rfl (.int .i64 xk) (.int .i64 xn) (vs xt) (.slice xA xan xac) (.slice xB xbn xbc)
  have hPS := set5 hp5 (.int .i64 xk) (.int .i64 xn) (vs xt) (.slice xA xan xac) (.slice xB xbn xbc)
  have hQS := (hT.block _ (lt_of_heap hq5) (by omega)).trans hq5
  have hRS := hR5.kept (hT.block _ hR5.lt (by omega))
  have hXS := hx5.turn hT (F' := fun b => w1.heap.size ≤ b) (fun b hb _ => ⟨fun e => by omega, hb⟩)
  have hBS : Below w.heap.size w _ := hB5.trans (Turn.below hT hB5.size (fun k hk e => by omega))
  have HD5 := Lib.hid (HD.out.trans (show _ = (if (sp M).isEmpty then .ok x else .error 3 : Except Int Js) by rw [hp]))
  obtain ⟨r0, r1, r2, r3, r4, q0, q1, q2, q3, q4⟩ := five_of hp5
  have HPS := Lib.hid hPS
  have HQS := Lib.hid hQS
  have HRS := Lib.hid hRS
  have HXS := Lib.hid hXS
  have HBS := Lib.hid hBS
  clear h5 hp hA5 hx5 hR5 hA hp5 hq5 hB5 hT hPS hQS hRS hXS hBS HD
  go_wp2_with fail
  generalize (((((w5.setCell ⟨w.heap.size, 0, none⟩ (.int .i64 xk)).setCell ⟨w.heap.size, 1, none⟩ (.int .i64 xn)).setCell ⟨w.heap.size, 2, none⟩ (vs xt)).setCell ⟨w.heap.size, 3, none⟩ (.slice xA xan xac)).setCell ⟨w.heap.size, 4, none⟩ (.slice xB xbn xbc)) = W at *
  clear r0 r1 r2 r3 r4 q0 q1 q2 q3 q4
  refine (space_calls HRS.out).mono ?_
  rintro e w6 ⟨rfl, hR6, hA6⟩
  have hp6 := (hA6.block w.heap.size (lt_of_heap HPS.out) (by omega)).trans HPS.out
  have hq6 := (hA6.block (w.heap.size + 1) (lt_of_heap HQS.out) (by omega)).trans HQS.out
  have hX6 := HXS.out.turn hA6 (F' := fun b => w1.heap.size ≤ b) (fun b hb _ => ⟨fun e => by omega, hb⟩)
  have hB6 : Below w.heap.size w w6 := HBS.out.trans (Turn.below hA6 HBS.out.size (fun k hk e => by omega))
  obtain ⟨r0, r1, r2, r3, r4, q0, q1, q2, q3, q4⟩ := five_of hp6
  have s0 := cells_of hq6 0 _ rfl
  have s1 := frz_of hq6 0
  obtain ⟨g0, g1, -, -⟩ := two_of hR6.heap
  have HP6 := Lib.hid hp6
  have HQ6 := Lib.hid hq6
  have HX6 := Lib.hid hX6
  have HB6 := Lib.hid hB6
  clear hR6 hA6 hp6 hq6 hX6 hB6 HXS HBS HPS HQS HRS
  go_wp2_with fail
  cases hem : (sp M).isEmpty with
  | false =>
    refine (must_false _).mono ?_
    rintro e w7 ⟨rfl, rfl⟩
    refine leaves_cons (f := 27) (args := #[.pointer (some ⟨w.heap.size, 0, none⟩), .pointer (some ⟨w.heap.size + 1, 0, none⟩)]) (by simp) (by simp [go_sem]) ?_
    exact (catch_panicking w.heap.size (w.heap.size + 1) 3 [] w7 HP6.out HQ6.out (by omega)).mono (by
      rintro e u' w' ⟨rfl, rfl, hp', hq', hT⟩
      refine ⟨_, resJ hp' hq' _ rfl rfl, ?_⟩
      rw [HD5.out, hem]
      exact ⟨HB6.out.trans (Turn.below hT HB6.out.size (fun k hk e => by omega)), rfl⟩)
  | true =>
    refine (must_true _).mono ?_
    rintro e w7 ⟨rfl, rfl⟩
    have hT := set5_turn (fp := fun b => b = w.heap.size ∨ b = w.heap.size + 1) w7 w.heap.size (.inl rfl) (.int .i64 xk) (.int .i64 xn) (vs xt) (.slice xA xan xac) (.slice xB xbn xbc)
    have hT' := set5_turn (fp := fun b => b = w.heap.size) w7 w.heap.size rfl (.int .i64 xk) (.int .i64 xn) (vs xt) (.slice xA xan xac) (.slice xB xbn xbc)
    have hPS := set5 HP6.out (.int .i64 xk) (.int .i64 xn) (vs xt) (.slice xA xan xac) (.slice xB xbn xbc)
    have hQS := (hT'.block _ (lt_of_heap HQ6.out) (by omega)).trans HQ6.out
    have hFIN : ∀ W, W = ((((((w7.setCell ⟨w.heap.size, 0, none⟩ (.int .i64 xk)).setCell ⟨w.heap.size, 1, none⟩ (.int .i64 xn)).setCell ⟨w.heap.size, 2, none⟩ (vs xt)).setCell ⟨w.heap.size, 3, none⟩ (.slice xA xan xac)).setCell ⟨w.heap.size, 4, none⟩ (.slice xB xbn xbc)).setCell ⟨w.heap.size + 1, 0, none⟩ (.int .i64 0)) →
        W.heap[w.heap.size]? = some (.cells (jcs xk xn xt xA xan xac xB xbn xbc) 27 (0, 0)) ∧ W.heap[w.heap.size + 1]? = some (.cells #[.int .i64 0] 28 (0, 0)) ∧ DecRet w (decodeP b) (.returned (.tuple #[jAgg xk xn xt xA xan xac xB xbn xbc, .int .i64 0])) W := by
      rintro W rfl
      generalize (((((w7.setCell ⟨w.heap.size, 0, none⟩ (.int .i64 xk)).setCell ⟨w.heap.size, 1, none⟩ (.int .i64 xn)).setCell ⟨w.heap.size, 2, none⟩ (vs xt)).setCell ⟨w.heap.size, 3, none⟩ (.slice xA xan xac)).setCell ⟨w.heap.size, 4, none⟩ (.slice xB xbn xbc)) = V2 at *
      have hT2 : Turn (fun b => b = w.heap.size ∨ b = w.heap.size + 1) w7 (V2.setCell ⟨w.heap.size + 1, 0, none⟩ (.int .i64 0)) := turn_then hT (Turn.setCell _ _ _ (.inr rfl))
      refine ⟨(heap_setCell_other _ _ _ _ (by show w.heap.size ≠ w.heap.size + 1; omega)).trans hPS, heap_setCell_same _ _ 0 _ _ _ hQS, HB6.out.trans (Turn.below hT2 HB6.out.size (fun k hk e => by omega)), ?_⟩
      rw [HD5.out, hem]
      exact ⟨_, rfl, HX6.out.turn hT2 (fun b hb _ => ⟨fun e => by omega, by omega⟩)⟩
    have HFIN := Lib.hid hFIN
    clear hT hT' hPS hQS hFIN
    go_wp2
    refine leaves_cons (f := 27) (args := #[.pointer (some ⟨w.heap.size, 0, none⟩), .pointer (some ⟨w.heap.size + 1, 0, none⟩)]) (by simp) (by simp [go_sem]) ?_
    exact (catch_idle _ _ _).mono (by
      rintro e u' w' ⟨rfl, rfl, rfl⟩
      obtain ⟨f1, f2, f3⟩ := HFIN.out _ rfl
      exact ⟨_, resJ f1 f2 _ rfl rfl, f3⟩)
end Go.Proofs.YtminegmjklehnaaGreatDoor.J

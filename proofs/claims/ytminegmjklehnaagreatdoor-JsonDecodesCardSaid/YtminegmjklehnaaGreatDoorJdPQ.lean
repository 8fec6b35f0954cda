/-
  The document's reader of JSON: Decode.
-/
import Derived.Test.YtminegmjklehnaaGreatDoorJdLO
import Derived.Test.YtminegmjklehnaaGreatDoorJsonP
import Derived.Test.YtminegmjklehnaaGreatDoorJsonPe
import Derived.Test.YtminegmjklehnaaGreatDoorJsonSr
import Derived.Test.YtminegmjklehnaaGreatDoorJsonAw
import Derived.Test.YtminegmjklehnaaGreatDoorJsonNr
import Derived.Maps.AppendAt
namespace Go.Proofs.YtminegmjklehnaaGreatDoor.J
open Go.RowKit Go.Proofs.YtminegmjklehnaaGreatDoor.B
open Go.Proofs.YtminegmjklehnaaGreatDoor.M hiding Bs
open Go.Proofs.YtminegmjklehnaaGreatDoor.C (QRow Turn)
set_option linter.unusedVariables false
set_option linter.unusedSimpArgs false

theorem resD {w : World} {p : Nat} {k n : Int} {t : Bs} {A : Option Addr} {an ac : Nat} {B : Option Addr} {bn bc : Nat} {d : Value} (hp : w.heap[p]? = some (.cells (jcs k n t A an ac B bn bc) 27 (0, 0))) (tmps : Array Value) (h2 : tmps.getD 2 undef = .pointer (some ⟨p, 0, none⟩)) (h3 : tmps.getD 3 undef = d) :
    (results Tryz.f8 tmps).run Tryz.prog w = .ok (.tuple #[jAgg k n t A an ac B bn bc, d]) w := by
  obtain ⟨p0, p1, p2, p3, p4, -⟩ := five_of hp
  have h2' : tmps[2]?.getD undef = .pointer (some ⟨p, 0, none⟩) := by simpa using h2
  have h3' : tmps[3]?.getD undef = d := by simpa using h3
  simp [results, Tryz.results8, go_sem, h2', h3', p0, p1, p2, p3, p4]
/-- the world when the reader is made. -/
abbrev rdW (w : World) (A : Option Addr) (n c : Nat) : World := (w.alloc (.cells (jcs 0 0 [] none 0 0 none 0 0) 27)).alloc (.cells #[.slice A n c, .int .i64 0, .int .i64 0] 52)
theorem rd_start {w : World} {b : Bs} {A : Option Addr} {c : Nat} (h : SlV w (fun g => g < w.heap.size) 1 ByR b A b.length) (hl : b.length ≤ 100000) (hc : b.length ≤ c) :
    (rdW w A b.length c).heap[w.heap.size]? = some (.cells (jcs 0 0 [] none 0 0 none 0 0) 27 (0, 0)) ∧ RS (rdW w A b.length c) (w.heap.size + 1) b (.ok b) ∧ Below w.heap.size w (rdW w A b.length c) := by
  have h1 := heap_alloc_new w (.cells (jcs 0 0 [] none 0 0 none 0 0) 27)
  have h2 := heap_alloc_new (w.alloc (.cells (jcs 0 0 [] none 0 0 none 0 0) 27)) (.cells #[.slice A b.length c, .int .i64 0, .int .i64 0] 52)
  rw [asz] at h2
  have hb : Below w.heap.size w (rdW w A b.length c) := ((Below.refl _ w).alloc (Nat.le_refl _) _).alloc (by rw [asz]; omega) _
  refine ⟨(alloc_old _ (lt_of_heap h1)).trans h1, ⟨0, ⟨A, c, h2, ?_, Nat.zero_le _, hl, hc⟩, rfl⟩, hb⟩
  exact (h.below (by decide) hb (fun _ _ h => h)).keep (by decide) (fun g hg _ => by omega) (fun _ _ _ h => h) (fun _ _ h => h)
theorem decodeP_st {b : Bs} {s2 : St} (hs2 : stOf (stP (valueP 12) (spS (.ok b))) = s2) : (∀ d, s2 = .error d → decodeP b = .error d) ∧ (∀ L, s2 = .ok L → ∃ x, stP (valueP 12) (spS (.ok b)) = .ok (x, L) ∧ decodeP b = if (sp L).isEmpty then .ok x else .error 3) := by
  subst hs2
  have e : stP (valueP 12) (spS (.ok b)) = valueP 12 (sp b) := rfl
  rw [e]
  unfold decodeP
  cases valueP 12 (sp b) with
  | error d => exact ⟨fun d' h => (by cases h; rfl), fun L h => (by cases h)⟩
  | ok q => exact ⟨fun d' h => (by cases h), fun L h => (by cases h; exact ⟨q.1, rfl, rfl⟩)⟩
theorem no_end {w W : World} {b : Bs} {d : Int} (hT : Turn (fun _ => False) w W) (hq : W.heap[w.heap.size]? = some (.cells (jcs 0 0 [] none 0 0 none 0 0) 27 (0, 0))) (hd : decodeP b = .error d) :
    ∀ V, V = (((((W.drew.setCell ⟨w.heap.size, 0, none⟩ (.int .i64 0)).setCell ⟨w.heap.size, 1, none⟩ (.int .i64 0)).setCell ⟨w.heap.size, 2, none⟩ (vs [])).setCell ⟨w.heap.size, 3, none⟩ (.slice none 0 0)).setCell ⟨w.heap.size, 4, none⟩ (.slice none 0 0)) ∨ V = (((((W.setCell ⟨w.heap.size, 0, none⟩ (.int .i64 0)).setCell ⟨w.heap.size, 1, none⟩ (.int .i64 0)).setCell ⟨w.heap.size, 2, none⟩ (vs [])).setCell ⟨w.heap.size, 3, none⟩ (.slice none 0 0)).setCell ⟨w.heap.size, 4, none⟩ (.slice none 0 0)).drew → V.heap[w.heap.size]? = some (.cells (jcs 0 0 [] none 0 0 none 0 0) 27 (0, 0)) ∧ DecRet w (decodeP b) (.returned (.tuple #[jAgg 0 0 [] none 0 0 none 0 0, .int .i64 d])) V := by
  have key : ∀ X, Turn (fun _ => False) w X → X.heap[w.heap.size]? = some (.cells (jcs 0 0 [] none 0 0 none 0 0) 27 (0, 0)) → ∀ Y, Y = (((((X.setCell ⟨w.heap.size, 0, none⟩ (.int .i64 0)).setCell ⟨w.heap.size, 1, none⟩ (.int .i64 0)).setCell ⟨w.heap.size, 2, none⟩ (vs [])).setCell ⟨w.heap.size, 3, none⟩ (.slice none 0 0)).setCell ⟨w.heap.size, 4, none⟩ (.slice none 0 0)) → Y.heap[w.heap.size]? = some (.cells (jcs 0 0 [] none 0 0 none 0 0) 27 (0, 0)) ∧ Turn (fun _ => False) w Y := by
    rintro X hT hq Y rfl
    exact ⟨set5 hq (.int .i64 0) (.int .i64 0) (vs []) (.slice none 0 0) (.slice none 0 0), Turn.trans hT (set5_turn (fp := fun k => k = w.heap.size) X w.heap.size rfl (.int .i64 0) (.int .i64 0) (vs []) (.slice none 0 0) (.slice none 0 0)) (fun k hk hlt => by omega)⟩
  have fin : ∀ Y, Turn (fun _ => False) w Y → DecRet w (decodeP b) (.returned (.tuple #[jAgg 0 0 [] none 0 0 none 0 0, .int .i64 d])) Y := fun Y hY => by
    refine ⟨Turn.below hY (Nat.le_refl _) (fun _ _ h => h), ?_⟩
    rw [hd]
  intro V hV
  rcases hV with hV | hV
  · have h1 := key W.drew (tdrew hT) (show W.drew.heap[w.heap.size]? = _ from hq) V hV
    exact ⟨h1.1, fin V h1.2⟩
  · obtain ⟨Y, hY⟩ : ∃ Y, Y = (((((W.setCell ⟨w.heap.size, 0, none⟩ (.int .i64 0)).setCell ⟨w.heap.size, 1, none⟩ (.int .i64 0)).setCell ⟨w.heap.size, 2, none⟩ (vs [])).setCell ⟨w.heap.size, 3, none⟩ (.slice none 0 0)).setCell ⟨w.heap.size, 4, none⟩ (.slice none 0 0)) := ⟨_, rfl⟩
    rw [← hY] at hV
    have h1 := key W hT hq Y hY
    clear hY
    subst hV
    exact ⟨h1.1, fin Y.drew (tdrew h1.2)⟩
set_option maxRecDepth 100000 in
set_option maxHeartbeats 16000000 in
theorem ddec_calls {w : World} {b : Bs} {A : Option Addr} {c : Nat} (h : SlV w (fun g => g < w.heap.size) 1 ByR b A b.length) (hl : b.length ≤ 100000) (hc : b.length ≤ c) :
    Calls Tryz.prog 8 #[.slice A b.length c] w (DecRet w (decodeP b)) := by
  obtain ⟨q1, q2, q3⟩ := rd_start h hl hc
  have HQ0 := Lib.hid q1
  have HR0 := Lib.hid q2
  have HB0 := Lib.hid q3
  have HV := Lib.hid (rvalue_calls 12 (by omega))
  clear h q1 q2 q3
  go_enter Tryz.func8, Tryz.ntmps8
  go_wp2_with fail
  refine (rspace_calls HR0.out).mono ?_
  rintro e w1 ⟨rfl, hR, hA⟩
  have HR1 := Lib.hid hR
  have HA1 := Lib.hid (Turn.trans (Turn.of_below HB0.out) hA (fun k hk hlt => by omega) : Turn (fun _ => False) w w1)
  have HQ1 := Lib.hid ((hA.block _ (lt_of_heap HQ0.out) (by omega)).trans HQ0.out)
  clear hR hA
  go_wp2_with fail
  refine (HV.out _ _ b _ HR1.out).mono ?_
  intro e w2 h2
  obtain ⟨x, xk, xn, xt, xA, xan, xac, xB, xbn, xbc, rfl, hA, hx, hR, hxx⟩ := h2.st
  obtain ⟨s2, hs2⟩ : ∃ s2, stOf (stP (valueP 12) (spS (.ok b))) = s2 := ⟨_, rfl⟩
  have HDE := Lib.hid (decodeP_st hs2)
  rw [hs2] at hR
  have hw1 := lt_of_heap HQ1.out
  have hww := hR.lt
  have hav : Turn (fun _ => False) w2 (w2.alloc (.cells (jcs xk xn xt xA xan xac xB xbn xbc) 27)) := Turn.alloc _ _
  have HR2 := Lib.hid (hR.turn hav (fun _ _ _ h => h))
  have HA2 := Lib.hid (turn_then (Turn.trans HA1.out hA (fun k hk hlt => by omega)) hav : Turn (fun _ => False) w _)
  have hq2 := ((hA.block _ (lt_of_heap HQ1.out) (by omega)).trans HQ1.out)
  have HQ2 := Lib.hid ((hav.block _ (lt_of_heap hq2) (fun h => h)).trans hq2)
  have HX2 := Lib.hid (hx.turn hav (F' := fun g => w1.heap.size ≤ g) (fun b hb _ => ⟨fun h => h, hb⟩))
  have HBX := Lib.hid (heap_alloc_new w2 (.cells (jcs xk xn xt xA xan xac xB xbn xbc) 27))
  have HXX := Lib.hid hxx
  clear hR hA hx hs2 hxx h2 hav hq2
  go_wp2_with fail
  refine (rspace_calls HR2.out).mono ?_
  rintro e w3 ⟨rfl, hR, hA⟩
  have HR3 := Lib.hid hR
  have HA3 := Lib.hid (Turn.trans HA2.out hA (fun k hk hlt => by omega) : Turn (fun _ => False) w w3)
  have HQ3 := Lib.hid ((hA.block _ (lt_of_heap HQ2.out) (by omega)).trans HQ2.out)
  have hs2w := lt_of_heap HBX.out
  have hw1' := HR1.out.lt
  have HX3 := Lib.hid (HX2.out.turn hA (F' := fun g => w1.heap.size ≤ g) (fun g (hg : w1.heap.size ≤ g) _ => ⟨fun e => by have e : g = w.heap.size + 1 := e; omega, hg⟩))
  have HBX3 := Lib.hid ((hA.block _ (lt_of_heap HBX.out) (by omega)).trans HBX.out)
  clear hR hA HR2 HA2 HQ2 HX2 HBX
  have HNO := Lib.hid (fun (W : World) hT hq d hd => no_end (w := w) (b := b) (W := W) (d := d) hT hq hd)
  obtain ⟨r0, r1, r2, r3, r4, fq0, fq1, fq2, fq3, fq4⟩ := five_of HQ3.out
  cases s2 with
  | error d =>
    obtain ⟨e2, hd0⟩ := HR3.out.e2
    have hd1 : (d == 0) = false := by simpa using hd0
    have HD := Lib.hid (HNO.out w3 HA3.out HQ3.out d (HDE.out.1 d rfl))
    clear HNO HDE HX3 HXX HBX3
    go_wp2_with fail
    go_region_law (fail)
    · go_wp2
      have hfin := HD.out _ (.inr rfl)
      refine bodyPost_ret (resD hfin.1 _ rfl rfl) rfl ?_
      exact hfin.2
    · go_wp2
      have hfin := HD.out _ (.inl rfl)
      refine bodyPost_ret (resD hfin.1 _ rfl rfl) rfl ?_
      exact hfin.2
  | ok L =>
    obtain ⟨k, e1, hk, hdr, e2⟩ := HR3.out.ok1
    obtain ⟨y, hy, hdec⟩ := HDE.out.2 L rfl
    have hxy := HXX.out y L hy
    have HDEC := Lib.hid hdec
    cases hsp : sp L with
    | nil =>
      have hkl : (b.length : Int) ≤ k := by
        have h1 := congrArg List.length hdr
        rw [hsp] at h1
        simp at h1
        omega
      have HE := Lib.hid (show decodeP b = .ok x by rw [HDEC.out, hsp, hxy]; rfl)
      obtain ⟨x0, x1, x2, x3, x4, -⟩ := five_of HBX3.out
      have hset := set5 HQ3.out (.int .i64 xk) (.int .i64 xn) (vs xt) (.slice xA xan xac) (.slice xB xbn xbc)
      have hTs := set5_turn (fp := fun k => k = w.heap.size) w3 w.heap.size rfl (.int .i64 xk) (.int .i64 xn) (vs xt) (.slice xA xan xac) (.slice xB xbn xbc)
      have HSET := Lib.hid hset
      have HBL := Lib.hid (Turn.below (Turn.trans HA3.out hTs (fun k hk hlt => by omega)) (Nat.le_refl _) (fun _ _ h => h) : Below w.heap.size w _)
      have HJS := Lib.hid (HX3.out.turn hTs (F' := fun b => w.heap.size ≤ b) (fun b (hb : w1.heap.size ≤ b) _ => ⟨fun e => by omega, by omega⟩))
      clear hsp hdr hy hdec hset hTs HNO HDE HXX HDEC hxy
      go_wp2
      refine bodyPost_ret (resD HSET.out _ rfl rfl) rfl ?_
      refine ⟨HBL.out, ?_⟩
      rw [HE.out]
      exact ⟨_, rfl, HJS.out⟩
    | cons c0 K =>
      have hkl : (k : Int) < b.length := by
        have h1 := congrArg List.length hdr
        rw [hsp] at h1
        simp at h1
        omega
      have HE := Lib.hid (show decodeP b = .error 3 by rw [HDEC.out, hsp]; rfl)
      clear hsp hdr hy hdec
      go_wp2_with fail
      refine (fail_calls HR3.out (d := 3) (by decide)).mono ?_
      rintro e w4 ⟨rfl, hR, hA⟩
      obtain ⟨e2', hd0⟩ := RS.e2 (show RS w4 _ b (.error 3) from hR)
      have hd1 : ((3 : Int) == 0) = false := rfl
      have hA4 : Turn (fun _ => False) w w4 := Turn.trans HA3.out hA (fun k hk hlt => by omega)
      have hQ4 := ((hA.block _ (lt_of_heap HQ3.out) (by omega)).trans HQ3.out)
      have HD := Lib.hid (HNO.out w4 hA4 hQ4 3 HE.out)
      clear hR hA r0 r1 r2 r3 r4 fq0 fq1 fq2 fq3 fq4 e1 e2 HNO HDE HX3 HXX HBX3
      obtain ⟨r0, r1, r2, r3, r4, fq0, fq1, fq2, fq3, fq4⟩ := five_of hQ4
      clear hQ4 hA4
      go_wp2_with fail
      go_region_law (fail)
      · go_wp2
        have hfin := HD.out _ (.inr rfl)
        refine bodyPost_ret (resD hfin.1 _ rfl rfl) rfl ?_
        exact hfin.2
      · go_wp2
        have hfin := HD.out _ (.inl rfl)
        refine bodyPost_ret (resD hfin.1 _ rfl rfl) rfl ?_
        exact hfin.2
end Go.Proofs.YtminegmjklehnaaGreatDoor.J

/-
  JsonDecodes: the walk.
-/
namespace Go.Proofs.YtminegmjklehnaaGreatDoor.J
open Go.RowKit Go.Proofs.YtminegmjklehnaaGreatDoor.B
open Go.Proofs.YtminegmjklehnaaGreatDoor.M hiding Bs
open Go.Proofs.YtminegmjklehnaaGreatDoor.C (QRow Turn)
set_option linter.unusedVariables false
set_option linter.unusedSimpArgs false

theorem bs_cellsD {w : World} {g off : Nat} {L : Bs} (h : ∀ i (hi : i < L.length), w.cell? ⟨g, off + i, none⟩ = some (.int .u8 (L[i].toNat : Int))) : ∀ j u, (bc L)[j]? = some u → w.cell? ((⟨g, off, none⟩ : Addr).add j) = some u := by
  intro j u hu
  have hj : j < L.length := by
    have := (List.getElem?_eq_some_iff.1 hu).1
    simpa [bc] using this
  rw [Addr.add_lit, h j hj, ← hu]
  simp [bc, hj]
/-- bytes that came in, put behind an own row. -/
theorem append_bsv {P : Program} {w : World} {ops : Array Oper} {rest : List Oper} {o : Oper} {a : Act} {Q : Exit → Act → World → Prop} (hgd : o.guard = none) (s x : Operand) (t : TypeId)
    (ho : o.op = .call { callee := .builtin .append, args := #[s, x], argTypes := #[t, t] }) (base : Nat) (e : TypeId) (i : TypeInfo) (z : Value) (ht : P.underlying t = some (.slice e)) (hi : P.info? e = some i) (hz : i.zero = some z)
    (hsize : i.size = 1) (hby : i.bytes = 1) (hzs : z.cells.size = 1) (v : Value) (n : Nat) (xs : List Value) (hs : a.eval s = v) (hown : w.ownsRow base e 1 v n xs)
    (xv : Value) (L : Bs) (hx : a.eval x = xv) (hb : BsV w xv L) (h63 : n + L.length ≤ 140737488355328) (hbase : base ≤ w.heap.size)
    (h : ∀ v' w', w'.ownsRow base e 1 v' (n + L.length) (xs ++ bc L) → w.grownBy w' v.ownBlock → wpList P ops Q rest (a.put o.dst v') w') : wpList P ops Q (o :: rest) a w := by
  refine wpList_plain hgd fun K hK => ?_
  rcases hb with ⟨rfl, A, c, rfl⟩ | ⟨g, off, cap, rfl, hc⟩
  · have hl : ∀ ad : Addr, (loadCells ad 0).run P w = .ok #[] w := fun ad => run_loadCells_list (P := P) w ad [] (fun j v h => by simp at h)
    have hr : (Builtin.append_ #[t, t] o.type #[v, .slice A 0 c]).run P w = .ok v w := by
      rcases hown.2 with ⟨rfl, h0⟩ | ⟨g, cap, cur, rfl, h1, h2, h3, h4⟩
      · cases A <;> simp [Builtin.append_, run_underlying ht, sizeOf, typeInfo, hi, Builtin.lenOf, Builtin.firstCells, storeCells, hl]
      · cases A <;> simp [Builtin.append_, run_underlying ht, sizeOf, typeInfo, hi, Builtin.lenOf, Builtin.firstCells, h3, storeCells, hl]
    unfold Oper.wp
    simp [execOp, ho, resolve, invoke, builtin, hs, hx, hr, Result.andThen]
    exact hK _ _ (h v w (by simpa [bc] using hown) (World.grownBy.refl w _))
  · obtain ⟨v', w', hr, h2, h3, -, -⟩ := run_append_own_at (P := P) w base t o.type e i z 1 1 ht hi hz hsize hby hzs (by decide) v n xs hown ⟨g, off, none⟩ L.length cap (bc L) (by simp [bc]) (bs_cellsD hc) (bc_ones _) (by unfold maxLen; omega) (by omega) hbase
    unfold Oper.wp
    simp [execOp, ho, resolve, invoke, builtin, hs, hx, hr, Result.andThen]
    exact hK _ _ (h v' w' h2 h3)
theorem bsv_sl {w : World} {A : Option Addr} {n c : Nat} {L : Bs} (h : BsV w (.slice A n c) L) (hl : L.length ≤ 100000) : n = L.length ∧ SlV w (fun g => g < w.heap.size) 1 ByR L A L.length := by
  rcases h with ⟨rfl, A', c', h1⟩ | ⟨g, off, cap, h1, hc⟩
  · simp only [Value.slice.injEq] at h1
    exact ⟨h1.2.1, rfl, by simp, fun k x hx => by simp at hx⟩
  · simp only [Value.slice.injEq] at h1
    obtain ⟨rfl, rfl, rfl⟩ := h1
    refine ⟨rfl, rfl, by omega, fun k x hx => ?_⟩
    obtain ⟨hk, hx'⟩ := List.getElem?_eq_some_iff.1 hx
    have h2 := hc k hk
    rw [hx'] at h2
    have hlt := World.block_lt_of_cell? w _ h2
    refine ⟨_, ⟨g, off + k, none⟩, [.int .u8 (x.toNat : Int)], rfl, by rw [Nat.mul_one, Addr.add_lit], hlt, rfl, fun j u hu => ?_, rfl⟩
    cases j with
    | zero =>
      simp at hu
      subst hu
      rw [add_zero]
      exact h2
    | succ j => simp at hu
def DecAny (w : World) (r : Except Int Js) (e : Ending) (w' : World) : Prop := Below w.heap.size w w' ∧ ∃ x k n t A an ac B bn bc d, e = .returned (.tuple #[jAgg k n t A an ac B bn bc, .int .i64 d]) ∧ JsV w' (fun b => w.heap.size ≤ b) x (jAgg k n t A an ac B bn bc) ∧ x = (match r with | .ok j => j | .error _ => nullJ) ∧ d = (match r with | .ok _ => 0 | .error d => d)
theorem DecRet.any {w w' : World} {r : Except Int Js} {e : Ending} (h : DecRet w r e w') : DecAny w r e w' := by
  obtain ⟨hb, h⟩ := h
  refine ⟨hb, ?_⟩
  cases r with
  | error d => exact ⟨nullJ, 0, 0, [], none, 0, 0, none, 0, 0, d, h, leaf_JsV _ _ 0 0 [], rfl, rfl⟩
  | ok j =>
    obtain ⟨v, he, hv⟩ := h
    obtain ⟨k, n, t, A, an, ac, B, bn, bc, rfl⟩ := hv.form
    exact ⟨j, k, n, t, A, an, ac, B, bn, bc, 0, he, hv, rfl, rfl⟩
set_option maxRecDepth 100000 in
set_option maxHeartbeats 16000000 in
theorem decodes_calls {L : Bs} {w : World} {A : Option Addr} {n c : Nat} (h : BsV w (.slice A n c) L) (hn : L.length = n) (hnc : n ≤ c) (hT : TabW w) (hP : TabP w) :
    Calls Tryz.prog 3 #[.slice A n c] w (BRet w true) := by
  have HAW := Lib.hid (awake_calls hT hP)
  have HT := Lib.hid hT
  have HV := Lib.hid h
  have HN := Lib.hid hn
  clear h hT hP hn
  by_cases hbig : 10000 < n
  · have hbig' : (10000 : Int) < (n : Int) := by omega
    go_enter Tryz.func3, Tryz.ntmps3
    go_wp2_with fail
    refine HAW.out.mono ?_
    rintro e w1 ⟨rfl, hb⟩
    have HB := Lib.hid hb
    clear hb
    go_wp2
    go_ret
    exact ⟨rfl, HB.out⟩
  have hbig' : ¬ (10000 : Int) < (n : Int) := by omega
  have HSM := Lib.hid (show L.length ≤ 10000 by have := HN.out; omega)
  obtain ⟨i0, hi, hz0, hz1, hz2⟩ := info_parts infoByte
  have HI := Lib.hid hi; clear hi
  have HZ0 := Lib.hid hz0; clear hz0
  have HZ1 := Lib.hid hz1; clear hz1
  have HZ2 := Lib.hid hz2; clear hz2
  go_enter Tryz.func3, Tryz.ntmps3
  go_wp2_with fail
  refine HAW.out.mono ?_
  rintro e w1 ⟨rfl, hb⟩
  have HB1 := Lib.hid hb
  have HV1 := Lib.hid (HV.out.below hb)
  clear hb HAW
  go_wp2_with (at_builtin; go_loud (refine append_bsv rfl _ _ 22 rfl w1.heap.size 5 i0 (.int .u8 0) Tryz.underlying22 HI.out HZ0.out HZ1.out HZ2.out rfl (.slice none 0 0) 0 [] rfl (World.ownsRow_nil _ _ _ _) (.slice A n c) L rfl HV1.out ?m1 (Nat.le_refl _) ?_))
  case m1 => have := HSM.out; omega
  intro v2 w2 ho2 hg2
  have hb2 : Below w1.heap.size w1 w2 := (Below.refl _ w1).grown hg2 (Nat.le_refl _) (fun b hb => by cases hb)
  have hv2 : BsV w2 v2 L := row_bytes (B := w1.heap.size) (by simpa using ho2)
  have HB2 := Lib.hid (keepB HB1.out hb2)
  have HV2 := Lib.hid (HV1.out.below hb2)
  have HO2 := Lib.hid hv2
  have HD := Lib.hid (Decode_calls hv2 (by have := HSM.out; omega) (TabW.tabs (HT.out.below HB2.out)))
  obtain ⟨A2, c2, rfl⟩ : ∃ A2 c2, v2 = .slice A2 L.length c2 := by
    rcases hv2 with ⟨h0, A', c', rfl⟩ | ⟨g, off, cap, rfl, -⟩
    · exact ⟨A', c', by rw [h0]; rfl⟩
    · exact ⟨_, _, rfl⟩
  clear ho2 hg2 hb2 hv2 HV1
  go_wp2_with fail
  refine HD.out.mono ?_
  intro e w3 h3
  obtain ⟨hb, x, xk, xn, xt, xA, xan, xac, xB, xbn, xbc, xd, rfl, hx, hxj, hxd⟩ := h3.any
  have hb3 : Below w3.heap.size w3 (w3.alloc (.cells (jcs xk xn xt xA xan xac xB xbn xbc) 27)) := (Below.refl _ w3).alloc (Nat.le_refl _) _
  have hbb := keepB hb hb3
  have HB3 := Lib.hid (keepB HB2.out hbb)
  have HV3 := Lib.hid (HV2.out.below hbb)
  have HO3 := Lib.hid (HO2.out.below hbb)
  have HX3 := Lib.hid (hx.below hb3)
  have HC3 := Lib.hid (heap_alloc_new w3 (.cells (jcs xk xn xt xA xan xac xB xbn xbc) 27))
  have hsl := bsv_sl HV3.out (by have := HSM.out; omega)
  have hnl := hsl.1
  have HDD := Lib.hid (ddec_calls hsl.2 (by have := HSM.out; omega) (by rw [← hnl]; exact hnc : L.length ≤ c))
  rw [← hnl] at HDD
  have HXJ := Lib.hid hxj
  have HXD := Lib.hid hxd
  have hs3 := asz w3 (.cells (jcs xk xn xt xA xan xac xB xbn xbc) 27)
  clear hb hb3 hbb h3 hx hsl hnl HD hxj hxd
  go_wp2_with fail
  generalize (w3.alloc (.cells (jcs xk xn xt xA xan xac xB xbn xbc) 27)) = V3 at *
  refine HDD.out.mono ?_
  intro e w4 h4
  obtain ⟨hb, y, yk, yn, yt, yA, yan, yac, yB, ybn, ybc, yd, rfl, hy, hyj, hyd⟩ := h4.any
  obtain rfl : yd = xd := by rw [HXD.out, hyd]
  obtain rfl : y = x := by rw [HXJ.out, hyj]
  have hb4 : Below w4.heap.size w4 (w4.alloc (.cells (jcs yk yn yt yA yan yac yB ybn ybc) 27)) := (Below.refl _ w4).alloc (Nat.le_refl _) _
  have hbb := keepB hb hb4
  have HB4 := Lib.hid (keepB HB3.out hbb)
  have HV4 := Lib.hid (HV3.out.below hbb)
  have HO4 := Lib.hid (HO3.out.below hbb)
  have HX4 := Lib.hid (HX3.out.below hbb)
  have HC4 := Lib.hid ((hbb.block _ (lt_of_heap HC3.out)).trans HC3.out)
  have HY4 := Lib.hid (hy.below hb4)
  have HE4 := Lib.hid (heap_alloc_new w4 (.cells (jcs yk yn yt yA yan yac yB ybn ybc) 27))
  have hs4 := hb.size
  have HSS := Lib.hid (dsame_calls y y _ _ _ _ _ _ _ _ _ _ _ _ _ _ _ _ _ _ _ _ _ HX4.out HY4.out)
  rw [same_refl] at HSS
  obtain ⟨p0, p1, p2, p3, p4, -⟩ := five_of HC4.out
  obtain ⟨q0, q1, q2, q3, q4, -⟩ := five_of HE4.out
  clear hb hb4 hbb h4 hy hyj hyd HDD HX3 HV3 HO3 HC3
  go_wp2_with fail
  refine HSS.out.mono ?_
  rintro e w5 ⟨rfl, hb⟩
  have HB5 := Lib.hid (keepB HB4.out hb)
  have hc1 := conv_bytes (HV4.out.below hb)
  have hc2 := conv_bytes (HO4.out.below hb)
  clear hb p0 p1 p2 p3 p4 q0 q1 q2 q3 q4
  go_wp2
  go_ret
  exact ⟨by simp [Array.getD], HB5.out⟩
end Go.Proofs.YtminegmjklehnaaGreatDoor.J

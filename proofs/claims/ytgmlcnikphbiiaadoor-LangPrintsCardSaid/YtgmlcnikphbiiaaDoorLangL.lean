/-
  The parser's relations: the walk.
-/
import Derived.Test.YtgmlcnikphbiiaaDoorLangK
namespace Go.Proofs.YtgmlcnikphbiiaaDoor.L
open Go.RowKit Go.Proofs.YtgmlcnikphbiiaaDoor.B
open Go.Proofs.YtgmlcnikphbiiaaDoor.C (QRow Turn)
set_option linter.unusedVariables false
set_option linter.unusedSimpArgs false

abbrev Z48 : Array Value := #[.string ⟨#[]⟩, .slice none 0 0, .int .i64 0, .string ⟨#[]⟩, .string ⟨#[]⟩, .slice none 0 0]
theorem RelR.set {w : World} {F : Nat → Prop} {x : Rl} {cs : List Value} (h : RelR w F x cs) {c : Nat} (hF : ∀ b, F b → b ≠ c) (o : Nat) (y : Value) : RelR (w.setCell ⟨c, o, none⟩ y) F x cs :=
  h.keep (fun _ hb _ => hb) (fun a v ha hv => by
    rw [cell_congr (heap_setCell_other w ⟨c, o, none⟩ a.block y (hF _ ha))]; exact hv)
theorem RelR.mono {w : World} {F F' : Nat → Prop} {x : Rl} {cs : List Value} (h : RelR w F x cs) (hF : ∀ b, F b → b < w.heap.size → F' b) : RelR w F' x cs := h.keep hF (fun _ _ _ hx => hx)
/-- the six cells of a result are stored. -/
theorem exit48 {w V : World} {pb : Nat} {op : Int} {L2 : List Tk} {o : Option Rl} {y : Bool} {x0 x1 x2 x3 x4 x5 z0 z1 z2 z3 z4 z5 : Value} (hpb : pb < w.heap.size) (hA : At pb w V) (hP : PS V pb op L2)
    (hrb : V.heap[w.heap.size]? = some (.cells #[z0, z1, z2, z3, z4, z5] 48 (0, 0)))
    (hV : ∀ W : World, (∀ F : Nat → Prop, (∀ b, F b → w.heap.size < b) → ∀ (x : Rl) cs, RelR V F x cs → RelR W F x cs) → RelRet w W o (.returned (.tuple #[.agg #[x0, x1, x2, x3, x4, x5], .bool y]))) :
    Ends pb op w (RelRet w) (.ok (o, L2)) (.returned (.tuple #[.agg #[x0, x1, x2, x3, x4, x5], .bool y]))
      ((((((V.setCell ⟨w.heap.size, 0, none⟩ x0).setCell ⟨w.heap.size, 1, none⟩ x1).setCell ⟨w.heap.size, 2, none⟩ x2).setCell ⟨w.heap.size, 3, none⟩ x3).setCell ⟨w.heap.size, 4, none⟩ x4).setCell ⟨w.heap.size, 5, none⟩ x5) ∧
    ((((((V.setCell ⟨w.heap.size, 0, none⟩ x0).setCell ⟨w.heap.size, 1, none⟩ x1).setCell ⟨w.heap.size, 2, none⟩ x2).setCell ⟨w.heap.size, 3, none⟩ x3).setCell ⟨w.heap.size, 4, none⟩ x4).setCell ⟨w.heap.size, 5, none⟩ x5).heap[w.heap.size]? = some (.cells #[x0, x1, x2, x3, x4, x5] 48 (0, 0)) := by
  refine ⟨⟨(((((hA.set_new (Nat.le_refl _) 0 _).set_new (Nat.le_refl _) 1 _).set_new (Nat.le_refl _) 2 _).set_new (Nat.le_refl _) 3 _).set_new (Nat.le_refl _) 4 _).set_new (Nat.le_refl _) 5 _, hV _ (fun F hF x cs h => ?_), ?_⟩, set6 hrb _ _ _ _ _ _⟩
  · have hne : ∀ b, F b → b ≠ w.heap.size := fun b hb => Nat.ne_of_gt (hF b hb)
    exact (((((h.set hne 0 _).set hne 1 _).set hne 2 _).set hne 3 _).set hne 4 _).set hne 5 _
  · exact hP.kept (set6_old (Nat.ne_of_lt hpb) _ _ _ _ _ _)
theorem info81 : (Tryd.prog.info? 81).map (fun i => (i.zero, i.size, i.bytes)) = some (some (.agg #[.string ByteArray.empty, .string ByteArray.empty]), 2, 32) := by kernel_rfl
theorem info_parts {o : Option TypeInfo} {a : Option Value} {b c : Nat} (h : o.map (fun i => (i.zero, i.size, i.bytes)) = some (a, b, c)) : ∃ i, o = some i ∧ i.zero = a ∧ i.size = b ∧ i.bytes = c := by
  cases o with
  | none => cases h
  | some i =>
    simp at h
    exact ⟨i, rfl, h.1, h.2.1, h.2.2⟩
/-- between two refs. -/
def LI (pb : Nat) (w : World) (s : Bs) (tot : R (List Rf)) (k : Nat) (v6 : Value) (wr : World) : Prop :=
  ∃ (acc : List Rf) (L' : List Tk) (A : Option Addr) (c : Nat) (more : Bool), v6 = .bool more ∧ PS wr pb 0 L' ∧
    wr.heap[w.heap.size + 1]? = some (.cells #[vs s, .slice A acc.length c, .int .i64 0, .string ⟨#[]⟩, .string ⟨#[]⟩, .slice none 0 0] 48 (0, 0)) ∧
    wr.heap[w.heap.size]? = some (.cells Z48 48 (0, 0)) ∧ At pb w wr ∧ OwnL wr 81 2 RefR (.slice A acc.length c) acc ∧ (∀ g, (Value.slice A acc.length c).ownBlock = some g → w.heap.size + 2 ≤ g) ∧
    (more = true → k = L'.length + 1 ∧ tot = refsGo (L'.length + 1) acc L') ∧ (more = false → k = 0 ∧ tot = .ok (acc, L')) ∧ acc.length + L'.length ≤ 5000
theorem ends_ref {pb : Nat} {op : Int} {w w' : World} {r : R Rf} {e : Ending} (h : Ends pb op w RefRet r e w') :
    (∃ d, r = .error d ∧ e = .panicked (dgChain d) ∧ At pb w w') ∨ (∃ a l, r = .ok (a, l) ∧ e = .returned (.agg #[vs a.ty, vs a.rel]) ∧ At pb w w' ∧ PS w' pb op l) := by
  obtain ⟨hA, hR⟩ := h
  cases r with
  | error d => exact .inl ⟨d, rfl, hR, hA⟩
  | ok p => exact .inr ⟨p.1, p.2, rfl, hR.1, hA, hR.2⟩
theorem cell_two_new (w : World) (x y : Value) (t : TypeId) : ∀ j u, [x, y][j]? = some u → (w.alloc (.cells #[x, y] t)).cell? ((⟨w.heap.size, 0, none⟩ : Addr).add j) = some u := by
  intro j u h
  have hg := heap_alloc_new w (.cells #[x, y] t)
  rw [Addr.add_lit, Nat.zero_add, cell_of_row _ _ _ _ _ (0, 0) hg]
  simpa using h
theorem At.grown {pb : Nat} {w a b : World} (h : At pb w a) {row : Option Nat} (hg : a.grownBy b row) (hr : ∀ g, row = some g → w.heap.size ≤ g) : At pb w b :=
  Turn.trans h (Turn.grown (fp := fun k => w.heap.size ≤ k) hg hr) (fun k hk hlt => by omega)
/-- a ref is put behind the others. -/
theorem ref_next {pb : Nat} {w wr w5 w6 : World} {s : Bs} {A A' : Option Addr} {c c' : Nat} {acc : List Rf} {x : Rf} {l5 : List Tk} {css : List (List Value)} (hlt : pb < w.heap.size) (hA : At pb w wr) (hrb : wr.heap[w.heap.size]? = some (.cells Z48 48 (0, 0)))
    (hblk : ∀ g, (Value.slice A acc.length c).ownBlock = some g → w.heap.size + 2 ≤ g) (hA5 : At pb wr.drew w5) (hP5 : PS w5 pb 0 l5)
    (hrv6 : w6.heap[w.heap.size + 1]? = some (.cells #[vs s, .slice A acc.length c, .int .i64 0, .string ⟨#[]⟩, .string ⟨#[]⟩, .slice none 0 0] 48 (0, 0)))
    (hc1 : ∀ c ∈ css, c.length = 2) (hc3 : All2 RefR acc css) (hq6 : QRow w6 81 2 (.slice A' (acc.length + 1) c') (acc.length + 1) (css.flatten ++ [vs x.ty, vs x.rel]))
    (hg6 : (w5.alloc (.cells #[vs x.ty, vs x.rel] 81)).grownBy w6 (Value.slice A acc.length c).ownBlock)
    (hb6 : ∀ g, (Value.slice A' (acc.length + 1) c').ownBlock = some g → (Value.slice A acc.length c).ownBlock = some g ∨ (w5.alloc (.cells #[vs x.ty, vs x.rel] 81)).heap.size ≤ g) :
    ∃ W, W = w6.setCell ⟨w.heap.size + 1, 1, none⟩ (.slice A' (acc.length + 1) c') ∧ At pb w W ∧ PS W pb 0 l5 ∧
      W.heap[w.heap.size + 1]? = some (.cells #[vs s, .slice A' (acc ++ [x]).length c', .int .i64 0, .string ⟨#[]⟩, .string ⟨#[]⟩, .slice none 0 0] 48 (0, 0)) ∧
      W.heap[w.heap.size]? = some (.cells Z48 48 (0, 0)) ∧ OwnL W 81 2 RefR (.slice A' (acc ++ [x]).length c') (acc ++ [x]) ∧ (∀ g, (Value.slice A' (acc ++ [x]).length c').ownBlock = some g → w.heap.size + 2 ≤ g) := by
  have hlen : (acc ++ [x]).length = acc.length + 1 := by simp
  have hl6 := lt_of_heap hrv6
  have hrb5 := (hA5.kept (w := wr.drew) hrb (Nat.ne_of_gt hlt))
  have hl5 := lt_of_heap hrb5
  have hp5 := hP5.lt
  have hsz : w.heap.size + 2 ≤ w5.heap.size + 1 ∧ w.heap.size ≤ w5.heap.size := ⟨by omega, by omega⟩
  have hw5 : w.heap.size + 2 ≤ (w5.alloc (.cells #[vs x.ty, vs x.rel] 81)).heap.size := by simp; omega
  have hA6 : At pb w w6 := (hA.drew.trans hA5).alloc_new _ |>.grown hg6 (fun g hg => by have := hblk g hg; omega)
  have hblk' : ∀ g, (Value.slice A' (acc.length + 1) c').ownBlock = some g → w.heap.size + 2 ≤ g := fun g hg => by
    rcases hb6 g hg with h | h
    · exact hblk g h
    · omega
  rw [hlen]
  refine ⟨_, rfl, hA6.set_new (by omega) 1 _, ?_, heap_setCell_same w6 (w.heap.size + 1) 1 _ _ _ hrv6, ?_, ?_, hblk'⟩
  · refine hP5.kept ?_
    rw [heap_setCell_other _ _ _ _ (by show pb ≠ w.heap.size + 1; omega), hg6.block pb (by simp; omega) (fun e => by have := hblk _ e.symm; omega), alloc_old _ hp5]
  · rw [heap_setCell_other _ _ _ _ (by show w.heap.size ≠ w.heap.size + 1; omega), hg6.block w.heap.size (by simp; omega) (fun e => by have := hblk _ e.symm; omega), alloc_old _ hl5]
    exact hrb5
  · have h0 : OwnL w6 81 2 RefR (.slice A' (acc.length + 1) c') (acc ++ [x]) := OwnL.snoc (w := w6) (v := .slice none 0 0) hc1 hc3 (c := [vs x.ty, vs x.rel]) rfl (fun _ _ h => h) rfl hq6
    refine h0.kept (fun g hg => heap_setCell_other _ _ _ _ (by have := hblk' g hg; show g ≠ w.heap.size + 1; omega)) (fun _ _ h => h)
set_option maxRecDepth 100000 in
set_option maxHeartbeats 2000000 in
theorem rel_calls {pb : Nat} {w : World} {L : List Tk} (h : PS w pb 0 L) : Calls Tryd.prog 50 #[.pointer (some ⟨pb, 0, none⟩)] w (Ends pb 0 w (RelRet w) (relS L)) := by
  have hlt := h.lt
  have HP := Lib.hid h
  obtain ⟨r, line, col, t, l', rfl, hB, hr, hl, hn, htm, -, -, hpm⟩ := h.split
  have g3 := cells_of hB 3 (vs (shown t.s)) rfl
  have HB := Lib.hid hB
  have HR := Lib.hid hr
  have HN := Lib.hid hn
  have hshr := shown_beq (q := t.s) (s := sRelation) (by simp) (by simp)
  have hshd := shown_beq (q := t.s) (s := sDefine) (by simp) (by simp)
  clear h hB hr hn hl htm hpm
  cases hr : t.s == sRelation with
  | false =>
    cases hd : t.s == sDefine with
    | false =>
      have hS : relS (t :: l') = .ok (none, t :: l') := by rw [relS_cons, hr, hd]; rfl
      have HS := Lib.hid hS
      rw [hr] at hshr
      rw [hd] at hshd
      clear hr hd hS
      go_enter Tryd.func50, Tryd.ntmps50
      go_wp2
      have hrb := (alloc_old (.cells Z48 48) (w := w.alloc (.cells Z48 48)) (b := w.heap.size) (by simp)).trans (heap_alloc_new w (.cells Z48 48))
      refine bodyPost_ret (res48 (s := []) (a := []) (b := []) hrb _ false rfl rfl) rfl ?_
      rw [HS.out]
      exact ⟨((At.refl pb w).alloc_new _).alloc_new _, rfl, (HP.out.kept (alloc_old _ hlt)).kept (alloc_old _ (by simp; omega))⟩
    | true =>
      have hne : t.s ≠ [] := fun e => by rw [e] at hd; cases hd
      have hnq : t.s ≠ [63] := fun e => by rw [e] at hd; cases hd
      have HN' := Lib.hid (HN.out hne hnq)
      have HS := Lib.hid (show relS (t :: l') = relHead false l' by rw [relS_cons, hr, hd]; rfl)
      rw [hr] at hshr
      rw [hd] at hshd
      clear hr hd hne hnq
      go_enter Tryd.func50, Tryd.ntmps50
      go_wp2_with fail
      refine (step_calls ((HB.out.kept (alloc_old _ hlt)).kept (alloc_old _ (by simp; omega))) HR.out).mono ?_
      rintro e w1 ⟨rfl, hP1, hA1⟩
      rw [← HN'.out] at hP1
      have hrb1 := hA1.kept ((alloc_old (.cells Z48 48) (w := w.alloc (.cells Z48 48)) (b := w.heap.size) (by simp)).trans (heap_alloc_new w (.cells Z48 48))) (Nat.ne_of_gt hlt)
      have hrv1 := hA1.kept (b := w.heap.size + 1) (by have := heap_alloc_new (w.alloc (.cells Z48 48)) (.cells Z48 48); simpa using this) (by omega)
      have hA1' := (((At.refl pb w).alloc_new (.cells Z48 48)).alloc_new (.cells Z48 48)).trans hA1
      have HA1 := Lib.hid hA1'
      have HP1 := Lib.hid hP1
      have HRB1 := Lib.hid hrb1
      have HRV1 := Lib.hid hrv1
      clear hP1 hA1 hA1' hrb1 hrv1 g3 HB HR HN
      go_wp2_with fail
      refine (name_calls HP1.out).mono ?_
      intro e w2 h2
      have hA2 := HA1.out.trans h2.1
      have hrb2 := h2.1.kept HRB1.out (Nat.ne_of_gt hlt)
      have hrv2 := h2.1.kept HRV1.out (by omega)
      rcases ends_name h2 with ⟨d, ho, rfl, -⟩ | ⟨s, l2, ho, rfl, -, hP2⟩
      · refine ⟨rfl, hA2, ?_⟩
        rw [HS.out, relHead_err ho]
      have HO := Lib.hid ho
      have HA2 := Lib.hid hA2
      have HP2 := Lib.hid hP2
      have HRB2 := Lib.hid hrb2
      have HRV2 := Lib.hid hrv2
      obtain ⟨k0, -, -, -, -, -, j0, -⟩ := six_of hrv2
      clear h2 hA2 hP2 hrb2 hrv2 ho HA1 HP1 HRB1 HRV1
      go_wp2_with fail
      have hP2' : PS (w2.setCell ⟨w.heap.size + 1, 0, none⟩ (vs s)) pb 0 l2 := HP2.out.kept (heap_setCell_other _ _ _ _ (by show pb ≠ w.heap.size + 1; omega))
      refine (must_calls hP2' _ [58] rfl (by simp) (by simp)).mono ?_
      intro e w3 h3
      have hA3 := (HA2.out.set_new (b := w.heap.size + 1) (by omega) 0 (vs s)).trans h3.1
      have hrb3 := h3.1.kept ((heap_setCell_other _ _ _ _ (by show w.heap.size ≠ w.heap.size + 1; omega)).trans HRB2.out) (Nat.ne_of_gt hlt)
      have hrv3 := h3.1.kept (heap_setCell_same w2 (w.heap.size + 1) 0 _ _ (vs s) HRV2.out) (by omega)
      rcases ends_must h3 with ⟨d, hm, rfl, -⟩ | ⟨l3, hm, rfl, -, hP3⟩
      · refine ⟨rfl, hA3, ?_⟩
        rw [HS.out, relHead_err2 HO.out hm]
      have HH := Lib.hid (relHead_ok (b := false) HO.out hm)
      have HA3 := Lib.hid hA3
      have HP3 := Lib.hid hP3
      have HRB3 := Lib.hid hrb3
      have HRV3 := Lib.hid (show w3.heap[w.heap.size + 1]? = some (.cells #[vs s, .slice none 0 0, .int .i64 0, .string ⟨#[]⟩, .string ⟨#[]⟩, .slice none 0 0] 48 (0, 0)) from hrv3)
      clear h3 hA3 hP3 hrb3 hrv3 hm k0 j0 hP2' HA2 HP2 HRB2 HRV2
      go_wp2_with fail
      refine (expr_calls 12 0 rfl (by omega) _ _ HP3.out).mono ?_
      intro e w4 h4
      have hA4 := HA3.out.trans h4.1
      have hrb4 := h4.1.kept HRB3.out (Nat.ne_of_gt hlt)
      have hrv4 := h4.1.kept HRV3.out (by omega)
      rcases ends_cases h4 with ⟨d, ho, rfl, -⟩ | ⟨b, l4, kb, ab, bb, Ab, nb, cb, ho, rfl, -, hP4, hV4⟩
      · refine ⟨rfl, hA4, ?_⟩
        rw [HS.out, HH.out]
        unfold relTail
        rw [if_neg (by simp), ho]
      have HO4 := Lib.hid ho
      have hsz3 : w.heap.size + 2 ≤ w3.heap.size := lt_of_heap HRV3.out
      have hne1 : w.heap.size ≠ w.heap.size + 1 := by omega
      have hn4 : ∀ c, w3.heap.size ≤ c → c ≠ w.heap.size + 1 := fun c hc => by omega
      have hV5 := ((((hV4.set hn4 2 (.int .i64 kb)).set hn4 3 (vs ab)).set hn4 4 (vs bb)).set hn4 5 (.slice Ab nb cb)).mono (F' := fun c => w.heap.size < c) (fun c hc _ => by omega)
      have hA5 := (((hA4.set_new (b := w.heap.size + 1) (by omega) 2 (.int .i64 kb)).set_new (b := w.heap.size + 1) (by omega) 3 (vs ab)).set_new (b := w.heap.size + 1) (by omega) 4 (vs bb)).set_new (b := w.heap.size + 1) (by omega) 5 (.slice Ab nb cb)
      have hold : ∀ c, c ≠ w.heap.size + 1 → ((((w4.setCell ⟨w.heap.size + 1, 2, none⟩ (.int .i64 kb)).setCell ⟨w.heap.size + 1, 3, none⟩ (vs ab)).setCell ⟨w.heap.size + 1, 4, none⟩ (vs bb)).setCell ⟨w.heap.size + 1, 5, none⟩ (.slice Ab nb cb)).heap[c]? = w4.heap[c]? := fun c hc => by
        rw [heap_setCell_other _ _ _ _ hc, heap_setCell_other _ _ _ _ hc, heap_setCell_other _ _ _ _ hc, heap_setCell_other _ _ _ _ hc]
      have hE := exit48 (op := 0) (o := some ⟨s, [], b⟩) (y := true) (x0 := vs s) (x1 := .slice none 0 0) (x2 := .int .i64 kb) (x3 := vs ab) (x4 := vs bb) (x5 := .slice Ab nb cb) hlt hA5 (hP4.kept (hold pb (by omega))) ((hold _ hne1).trans hrb4)
        (fun W hW => ⟨[vs s, .slice none 0 0, .int .i64 kb, vs ab, vs bb, .slice Ab nb cb], rfl, (hW (fun c => w.heap.size < c) (fun _ h => h) ⟨s, [], b⟩ _ ⟨none, 0, 0, kb, ab, bb, Ab, nb, cb, rfl, ⟨rfl, by omega, fun k x hx => by simp at hx⟩, hV5⟩).mono (fun c hc _ => Nat.le_of_lt hc)⟩)
      have HE := Lib.hid hE
      obtain ⟨k0, k1, k2, k3, k4, k5, j0, j1, j2, j3, j4, j5⟩ := six_of hrv4
      obtain ⟨q0, q1, q2, q3, q4, q5, i0, i1, i2, i3, i4, i5⟩ := six_of hrb4
      clear h4 hA4 ho hP4 hV4 hV5 hA5 hE hrb4 hrv4 hold hn4
      go_wp2
      obtain ⟨hE, hH⟩ := HE.out
      refine bodyPost_ret (res48 hH _ true rfl rfl) rfl ?_
      rw [HS.out, HH.out, show relTail false s l3 = .ok (some ⟨s, [], b⟩, l4) by unfold relTail; rw [if_neg (by simp), HO4.out]]
      exact hE
  | true =>
    have hne : t.s ≠ [] := fun e => by rw [e] at hr; cases hr
    have hnq : t.s ≠ [63] := fun e => by rw [e] at hr; cases hr
    have HN' := Lib.hid (HN.out hne hnq)
    have HS := Lib.hid (show relS (t :: l') = relHead true l' by rw [relS_cons, hr]; rfl)
    rw [hr] at hshr

    clear hr hshd hne hnq
    go_enter Tryd.func50, Tryd.ntmps50
    go_wp2_with fail
    refine (step_calls ((HB.out.kept (alloc_old _ hlt)).kept (alloc_old _ (by simp; omega))) HR.out).mono ?_
    rintro e w1 ⟨rfl, hP1, hA1⟩
    rw [← HN'.out] at hP1
    have hrb1 := hA1.kept ((alloc_old (.cells Z48 48) (w := w.alloc (.cells Z48 48)) (b := w.heap.size) (by simp)).trans (heap_alloc_new w (.cells Z48 48))) (Nat.ne_of_gt hlt)
    have hrv1 := hA1.kept (b := w.heap.size + 1) (by have := heap_alloc_new (w.alloc (.cells Z48 48)) (.cells Z48 48); simpa using this) (by omega)
    have hA1' := (((At.refl pb w).alloc_new (.cells Z48 48)).alloc_new (.cells Z48 48)).trans hA1
    have HA1 := Lib.hid hA1'
    have HP1 := Lib.hid hP1
    have HRB1 := Lib.hid hrb1
    have HRV1 := Lib.hid hrv1
    clear hP1 hA1 hA1' hrb1 hrv1 g3 HB HR HN
    go_wp2_with fail
    refine (name_calls HP1.out).mono ?_
    intro e w2 h2
    have hA2 := HA1.out.trans h2.1
    have hrb2 := h2.1.kept HRB1.out (Nat.ne_of_gt hlt)
    have hrv2 := h2.1.kept HRV1.out (by omega)
    rcases ends_name h2 with ⟨d, ho, rfl, -⟩ | ⟨s, l2, ho, rfl, -, hP2⟩
    · refine ⟨rfl, hA2, ?_⟩
      rw [HS.out, relHead_err ho]
    have HO := Lib.hid ho
    have HA2 := Lib.hid hA2
    have HP2 := Lib.hid hP2
    have HRB2 := Lib.hid hrb2
    have HRV2 := Lib.hid hrv2
    obtain ⟨k0, -, -, -, -, -, j0, -⟩ := six_of hrv2
    clear h2 hA2 hP2 hrb2 hrv2 ho HA1 HP1 HRB1 HRV1
    go_wp2_with fail
    have hP2' : PS (w2.setCell ⟨w.heap.size + 1, 0, none⟩ (vs s)) pb 0 l2 := HP2.out.kept (heap_setCell_other _ _ _ _ (by show pb ≠ w.heap.size + 1; omega))
    refine (must_calls hP2' _ [58] rfl (by simp) (by simp)).mono ?_
    intro e w3 h3
    have hA3 := (HA2.out.set_new (b := w.heap.size + 1) (by omega) 0 (vs s)).trans h3.1
    have hrb3 := h3.1.kept ((heap_setCell_other _ _ _ _ (by show w.heap.size ≠ w.heap.size + 1; omega)).trans HRB2.out) (Nat.ne_of_gt hlt)
    have hrv3 := h3.1.kept (heap_setCell_same w2 (w.heap.size + 1) 0 _ _ (vs s) HRV2.out) (by omega)
    rcases ends_must h3 with ⟨d, hm, rfl, -⟩ | ⟨l3, hm, rfl, -, hP3⟩
    · refine ⟨rfl, hA3, ?_⟩
      rw [HS.out, relHead_err2 HO.out hm]
    have HH := Lib.hid (relHead_ok (b := true) HO.out hm)
    have HA3 := Lib.hid hA3
    have HP3 := Lib.hid hP3
    have HRB3 := Lib.hid hrb3
    have HRV3 := Lib.hid (show w3.heap[w.heap.size + 1]? = some (.cells #[vs s, .slice none 0 0, .int .i64 0, .string ⟨#[]⟩, .string ⟨#[]⟩, .slice none 0 0] 48 (0, 0)) from hrv3)
    clear h3 hA3 hP3 hrb3 hrv3 hm k0 j0 hP2' HA2 HP2 HRB2 HRV2
    have HT := Lib.hid (show relTail true s l3 = match refsS l3 with
      | .error d => .error d
      | .ok (rs, l) => .ok (some ⟨s, rs, leaf 0 [] []⟩, l) from rfl)
    obtain ⟨i0, hi, hz0, hz1, hz2⟩ := info_parts info81
    have HI := Lib.hid hi
    have HZ0 := Lib.hid hz0
    have HZ1 := Lib.hid hz1
    have HZ2 := Lib.hid hz2
    clear hi hz0 hz1 hz2
    go_wp2_with fail
    go_loopg [6] (l3.length + 1) (fun k v6 wr => LI pb w s (refsS l3) k v6 wr)
    case atStart =>
      exact ⟨[], l3, none, 0, true, rfl, HP3.out, HRV3.out, HRB3.out, HA3.out, OwnL.nil _ _ _ _, (by intro g hg; cases hg), fun _ => ⟨rfl, rfl⟩, (fun h => by cases h), by have := HP3.out.len; simp; omega⟩
    case round =>
      clear HRV3 HRB3 HP3 HA3
      obtain ⟨acc, L', A, c, more, rfl, hP, hrv, hrb, hA, hown, hblk, hT, hF, hlen⟩ := hrel
      have HP' := Lib.hid hP
      have HRV := Lib.hid hrv
      have HRB := Lib.hid hrb
      have HA := Lib.hid hA
      have HOWN := Lib.hid hown
      have HBLK := Lib.hid hblk
      cases more with
      | false =>
        obtain ⟨-, htot⟩ := hF rfl
        have HTOT := Lib.hid htot
        obtain ⟨k0, k1, k2, k3, k4, k5, j0, j1, j2, j3, j4, j5⟩ := six_of hrv
        obtain ⟨q0, q1, q2, q3, q4, q5, i0', i1, i2, i3, i4, i5⟩ := six_of hrb
        have hE := exit48 (op := 0) (o := some ⟨s, acc, leaf 0 [] []⟩) (y := true) (x0 := vs s) (x1 := .slice A acc.length c) (x2 := .int .i64 0) (x3 := vs []) (x4 := vs []) (x5 := .slice none 0 0) hlt hA hP hrb
          (fun W hW => ⟨[vs s, .slice A acc.length c, .int .i64 0, vs [], vs [], .slice none 0 0], rfl, (hW (fun c => w.heap.size < c) (fun _ h => h) ⟨s, acc, leaf 0 [] []⟩ _ ⟨A, acc.length, c, 0, [], [], none, 0, 0, rfl, hown.read (by decide) (fun g hg => by have := hblk g hg; omega), leaf_V _ _ _ _ _⟩).mono (fun c hc _ => Nat.le_of_lt hc)⟩)
        have HE := Lib.hid hE
        clear hP hrv hrb hA hown hblk hT hF htot hE
        go_wp2
        obtain ⟨hE, hH⟩ := HE.out
        refine bodyPost_ret (res48 hH _ true rfl rfl) rfl ?_
        rw [HS.out, HH.out, HT.out, HTOT.out]
        exact hE
      | true =>
        obtain ⟨hgk, htot⟩ := hT rfl
        subst hgk
        have HTOT := Lib.hid htot
        have hlt2 := lt_of_heap hrv
        obtain ⟨k0, k1, k2, k3, k4, k5, j0, j1, j2, j3, j4, j5⟩ := six_of hrv
        have herr : ∀ d w5, refS L' = .error d → At pb wr.drew w5 → Ends pb 0 w (RelRet w) (relS (t :: l')) (.panicked (dgChain d)) w5 := fun d w5 ho h5 => by
          rw [HS.out, HH.out, HT.out, HTOT.out, refsGo_err ho]
          exact ⟨hA.drew.trans h5, rfl⟩
        have hafter : ∀ w5 (x : Rf), At pb wr.drew w5 → w5.heap[w.heap.size + 1]? = some (.cells #[vs s, .slice A acc.length c, .int .i64 0, .string ⟨#[]⟩, .string ⟨#[]⟩, .slice none 0 0] 48 (0, 0)) ∧
            OwnL (w5.alloc (.cells #[vs x.ty, vs x.rel] 81)) 81 2 RefR (.slice A acc.length c) acc ∧
            ∀ w6, (w5.alloc (.cells #[vs x.ty, vs x.rel] 81)).grownBy w6 (Value.slice A acc.length c).ownBlock → w6.heap[w.heap.size + 1]? = some (.cells #[vs s, .slice A acc.length c, .int .i64 0, .string ⟨#[]⟩, .string ⟨#[]⟩, .slice none 0 0] 48 (0, 0)) := fun w5 x h5 => by
          have hrv5 := h5.kept (b := w.heap.size + 1) hrv (by omega)
          refine ⟨hrv5, hown.kept (fun g hg => ?_) (fun _ _ h => h), fun w6 hg => ?_⟩
          rotate_left
          · have hl5 := lt_of_heap hrv5
            rw [hg.block _ (by simp; omega) (fun e => by have := hblk _ e.symm; omega), alloc_old _ hl5]
            exact hrv5
          obtain ⟨css, _, hq, _⟩ := hown
          have h1 := hq.block_lt hg
          have h2 := hblk g hg
          rw [alloc_old _ (Nat.lt_of_lt_of_le h1 h5.size)]
          exact h5.keep h1 (by omega)
        have HERR := Lib.hid herr
        have HAF := Lib.hid hafter
        have hacc : acc.length ≤ 5000 := by omega
        clear hT hF htot hP hrv hrb hA hown hblk herr hafter
        go_wp2_with fail
        go_region_law (first
          | (refine step_append_q rfl _ _ 46 rfl 81 i0 (.agg #[.string ByteArray.empty, .string ByteArray.empty]) 2 32 Tryd.underlying46 HI.out HZ0.out HZ1.out HZ2.out rfl (by decide) (.slice A acc.length c) acc.length css.flatten rfl HQ5.out ⟨w5.heap.size, 0, none⟩ 1 1 [vs x.ty, vs x.rel] rfl rfl (cell_two_new _ _ _ _) (by intro u hu; simp at hu; rcases hu with rfl | rfl <;> rfl) (by unfold maxLen; omega) (by omega) ?_
             intro v' w6 hq6 hg6 hb6
             obtain ⟨A', c', rfl⟩ := QRow.form hq6
             have H6 := Lib.hid (And.intro hq6 (And.intro hg6 hb6))
             obtain ⟨m0', m1', m2', m3', m4', m5', n0', n1', n2', n3', n4', n5'⟩ := six_of (HG5.out _ hg6)
             clear hq6 hg6 hb6)
          | (go_simp; refine (ref_calls (HP'.out.kept (w' := wr.drew) rfl)).mono ?_; intro e5 w5 h5; rcases ends_ref h5 with ⟨d, ho, rfl, hA5⟩ | ⟨x, l5, ho, rfl, hA5, hP5⟩
             · exact ⟨rfl, HERR.out d _ ho hA5⟩
             obtain ⟨hrv5, hown5, hgr5⟩ := HAF.out w5 x hA5
             have HG5 := Lib.hid hgr5
             clear hgr5
             obtain ⟨css, hc1, hc2, hc3⟩ := hown5
             have hvl := lt_of_heap hrv5
             obtain ⟨m0, m1, m2, m3, m4, m5, n0, n1, n2, n3, n4, n5⟩ := six_of hrv5
             have HQ5 := Lib.hid hc2
             have H5 := Lib.hid (And.intro ho (And.intro hA5 (And.intro hP5 (And.intro hrv5 (And.intro hc1 hc3)))))
             clear h5 ho hA5 hP5 hrv5 hc1 hc2 hc3))
        all_goals
          obtain ⟨ho, hA5, hP5, hrv5, hc1, hc3⟩ := H5.out
          obtain ⟨hq6, hg6, hb6⟩ := H6.out
          obtain ⟨W, hW, hAW, hPW, hrvW, hrbW, hownW, hblkW⟩ := ref_next hlt HA.out HRB.out HBLK.out hA5 hP5 (HG5.out _ hg6) hc1 hc3 hq6 hg6 hb6
          rw [← hW]
          have HOO := Lib.hid ho
          have HAW := Lib.hid hAW
          have HPW := Lib.hid hPW
          have HRVW := Lib.hid hrvW
          have HRBW := Lib.hid hrbW
          have HOWNW := Lib.hid hownW
          have HBLKW := Lib.hid hblkW
          clear H5 H6 HQ5 HG5 ho hA5 hP5 hrv5 hc1 hc3 hq6 hg6 hb6 hW hAW hPW hrvW hrbW hownW hblkW m0 m1 m2 m3 m4 m5 n0 n1 n2 n3 n4 n5 m0' m1' m2' m3' m4' m5' n0' n1' n2' n3' n4' n5' k0 k1 k2 k3 k4 k5 j0 j1 j2 j3 j4 j5 hvl
          go_wp2_with fail
          refine (has_calls HPW.out _ [124] rfl (by simp) (by simp)).mono ?_
          rintro e8 w8 ⟨rfl, hP8, hA8⟩
          have hl5 := less1_ref HOO.out
          have hh5 := hasS_len [124] l5
          have hlen' : (acc ++ [x]).length = acc.length + 1 := by simp
          have hnext : LI pb w s (refsS l3) (if (hasS [124] l5).1 then (hasS [124] l5).2.length + 1 else 0) (.bool (hasS [124] l5).1) w8 := by
            refine ⟨acc ++ [x], (hasS [124] l5).2, A', c', (hasS [124] l5).1, rfl, hP8, hA8.kept HRVW.out (by omega), hA8.kept HRBW.out (Nat.ne_of_gt hlt), HAW.out.trans hA8, HOWNW.out.kept (fun g hg => ?_) (fun _ _ h => h), HBLKW.out, fun hm => ⟨by rw [hm]; rfl, ?_⟩, fun hm => ⟨by rw [hm]; rfl, ?_⟩, by omega⟩
            · obtain ⟨css', _, hq', _⟩ := HOWNW.out
              exact hA8.keep (hq'.block_lt hg) (by have := HBLKW.out g hg; omega)
            · rw [HTOT.out, refsGo_on (Nat.le_refl _) HOO.out hm]
            · rw [HTOT.out, refsGo_end HOO.out hm]
          have HNEXT := Lib.hid hnext
          have hk : (if (hasS [124] l5).1 then (hasS [124] l5).2.length + 1 else 0) < L'.length + 1 := by
            split
            · rename_i hm
              have := hasS_less hm
              omega
            · omega
          have HKK := Lib.hid hk
          clear hnext hk hl5 hh5 hlen' hP8 hA8
          generalize (if (hasS [124] l5).1 then (hasS [124] l5).2.length + 1 else 0) = kk at *
          generalize (hasS [124] l5).1 = b8 at *
          go_wp2
          go_roundg kk
          case measure => exact HKK.out
          case rel => exact HNEXT.out
end Go.Proofs.YtgmlcnikphbiiaaDoor.L

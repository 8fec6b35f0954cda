/-
  The parser's schema: the walk.
-/
import Derived.Test.YtgmlcnikphbiiaaDoorLangM
namespace Go.Proofs.YtgmlcnikphbiiaaDoor.L
open Go.RowKit Go.Proofs.YtgmlcnikphbiiaaDoor.B
open Go.Proofs.YtgmlcnikphbiiaaDoor.C (QRow Turn wpList_append_q)
set_option linter.unusedVariables false
set_option linter.unusedSimpArgs false

theorem info48 : (Tryd.prog.info? 48).map (fun i => (i.zero, i.size, i.bytes)) = some (some (.agg #[.string ByteArray.empty, .slice none 0 0, .int .i64 0, .string ByteArray.empty, .string ByteArray.empty, .slice none 0 0]), 6, 104) := by kernel_rfl
theorem info35 : (Tryd.prog.info? 35).map (fun i => (i.zero, i.size, i.bytes)) = some (some (.agg #[.string ByteArray.empty, .slice none 0 0]), 2, 40) := by kernel_rfl
def ScRet (w : World) (w' : World) (ts : List Ty) (e : Ending) : Prop := ∃ A n c, e = .returned (.agg #[.slice A n c]) ∧ SlV w' (fun b => w.heap.size ≤ b) 2 (TyR w' (fun b => w.heap.size ≤ b)) ts A n
theorem SS.init {pb : Nat} {w : World} (hp : pb < w.heap.size) : SS pb w [] none 0 ((w.alloc (.cells #[.slice none 0 0] 25)).alloc (.cells #[.slice none 0 0] 25)) := by
  refine ⟨((At.refl pb w).alloc_new _).alloc_new _, ?_, ?_, OwnL.nil _ _ _ _, (fun g hg => by cases hg), hp⟩
  · rw [alloc_old _ (by simp)]; exact heap_alloc_new _ _
  · have := heap_alloc_new (w.alloc (.cells #[.slice none 0 0] 25)) (.cells #[.slice none 0 0] 25); simpa using this
/-- how a relation's call ends. -/
theorem ends_rel {pb : Nat} {op : Int} {w w' : World} {r : R (Option Rl)} {e : Ending} (h : Ends pb op w (RelRet w) r e w') :
    (∃ d, r = .error d ∧ e = .panicked (dgChain d) ∧ At pb w w') ∨
    (∃ o l y0 A0 n0 c0 k0 y1 y2 A1 n1 c1, r = .ok (o, l) ∧ e = .returned (.tuple #[.agg #[vs y0, .slice A0 n0 c0, .int .i64 k0, vs y1, vs y2, .slice A1 n1 c1], .bool o.isSome]) ∧ At pb w w' ∧ PS w' pb op l ∧ ∀ x, o = some x → RelR w' (fun b => w.heap.size ≤ b) x [vs y0, .slice A0 n0 c0, .int .i64 k0, vs y1, vs y2, .slice A1 n1 c1]) := by
  obtain ⟨hA, hR⟩ := h
  cases r with
  | error d => exact .inl ⟨d, rfl, hR, hA⟩
  | ok p =>
    obtain ⟨o, l⟩ := p
    obtain ⟨hV, hP⟩ := hR
    cases o with
    | none => exact .inr ⟨none, l, [], none, 0, 0, 0, [], [], none, 0, 0, rfl, hV, hA, hP, fun x hx => by cases hx⟩
    | some x =>
      obtain ⟨cs, he, hx⟩ := hV
      obtain ⟨A, n, c, k, a, b, A', n', c', rfl, h2⟩ := id hx
      exact .inr ⟨some x, l, _, _, _, _, _, _, _, _, _, _, rfl, he, hA, hP, fun y hy => by cases hy; exact hx⟩
theorem turn_then {S : Nat → Prop} {a b c : World} (h : Turn S a b) (h' : Turn S b c) : Turn S a c := Turn.trans h h' (fun _ h _ => h)
theorem turn_set6 (w : World) (b : Nat) (y0 y1 y2 y3 y4 y5 : Value) : Turn (fun k => k = b) w ((((((w.setCell ⟨b, 0, none⟩ y0).setCell ⟨b, 1, none⟩ y1).setCell ⟨b, 2, none⟩ y2).setCell ⟨b, 3, none⟩ y3).setCell ⟨b, 4, none⟩ y4).setCell ⟨b, 5, none⟩ y5) :=
  turn_then (turn_then (turn_then (turn_then (turn_then (Turn.setCell _ _ _ rfl) (Turn.setCell _ _ _ rfl)) (Turn.setCell _ _ _ rfl)) (Turn.setCell _ _ _ rfl)) (Turn.setCell _ _ _ rfl)) (Turn.setCell _ _ _ rfl)
/-- between two relations. -/
def RI (pb : Nat) (w : World) (bt : Nat) (s : Bs) (acc : List Ty) (A : Option Addr) (c : Nat) (tot : R (List Rl)) (k : Nat) (v5 v6 : Value) (wr : World) : Prop :=
  ∃ (acc2 : List Rl) (L' : List Tk) (A2 : Option Addr) (c2 br : Nat) (y0 : Bs) (A0 : Option Addr) (n0 c0 : Nat) (k0 : Int) (y1 y2 : Bs) (A1 : Option Addr) (n1 c1 : Nat) (o : Option Rl), v5 = .pointer (some ⟨br, 0, none⟩) ∧ v6 = .bool o.isSome ∧ PS wr pb 0 L' ∧ RS pb w bt br s acc A c acc2 A2 c2 [vs y0, .slice A0 n0 c0, .int .i64 k0, vs y1, vs y2, .slice A1 n1 c1] wr ∧
    (∀ x, o = some x → k = L'.length + 1 ∧ tot = relsOf (L'.length + 1) (acc2 ++ [x]) L' ∧ RelR wr (RF w bt br (own A acc.length c) (own A2 acc2.length c2)) x [vs y0, .slice A0 n0 c0, .int .i64 k0, vs y1, vs y2, .slice A1 n1 c1]) ∧
    (o = none → k = 0 ∧ tot = .ok (acc2, L')) ∧ acc2.length + L'.length + (if o.isSome then 1 else 0) ≤ 5000
set_option maxRecDepth 100000 in
set_option maxHeartbeats 2000000 in
theorem schema_calls {pb : Nat} {w : World} {L : List Tk} (h : PS w pb 0 L) : Calls Tryd.prog 24 #[.pointer (some ⟨pb, 0, none⟩)] w (Ends pb 0 w (ScRet w) (schemaS L)) := by
  have hlt := h.lt
  have hlen := h.len
  have HP := Lib.hid h
  clear h
  have HTOT := Lib.hid (show schemaS L = match typesGo (L.length + 1) [] L with
  | .error d => .error d
  | .ok (ts, []) => failsL 8 []
  | .ok (ts, t :: l) => if t.s == [] then .ok (ts, t :: l) else t.fail 8 from rfl)
  obtain ⟨i0, hi, hz0, hz1, hz2⟩ := info_parts info48
  have HI := Lib.hid hi
  have HZ0 := Lib.hid hz0
  have HZ1 := Lib.hid hz1
  have HZ2 := Lib.hid hz2
  clear hi hz0 hz1 hz2
  obtain ⟨j0, hi, hz0, hz1, hz2⟩ := info_parts info35
  have JI := Lib.hid hi
  have JZ0 := Lib.hid hz0
  have JZ1 := Lib.hid hz1
  have JZ2 := Lib.hid hz2
  clear hi hz0 hz1 hz2
  go_enter Tryd.func24, Tryd.ntmps24
  go_wp2_with fail
  go_loopg [] (L.length + 1) (fun k wr => ∃ (acc : List Ty) (L' : List Tk) (A : Option Addr) (c : Nat), k = L'.length + 1 ∧ PS wr pb 0 L' ∧ SS pb w acc A c wr ∧ Hid (typesGo (L.length + 1) [] L = typesGo (L'.length + 1) acc L') ∧ acc.length + L'.length ≤ 5000)
  case atStart => exact ⟨[], L, none, 0, rfl, (HP.out.kept (alloc_old _ hlt)).kept (alloc_old _ (by simp; omega)), SS.init hlt, Lib.hid rfl, by simp; omega⟩
  case round =>
    obtain ⟨acc, L', A, c, rfl, hP, hS, HT, hal⟩ := hrel
    have HP' := Lib.hid hP
    have HS := Lib.hid hS
    have HHS := Lib.hid (hasS_len sType L')
    clear hP hS HP
    go_wp2_with fail
    refine (has_calls HP'.out _ sType rfl (by simp) (by simp)).mono ?_
    rintro e w1 ⟨rfl, hP1, hA1⟩
    have hS1 := HS.out.turn hA1
    cases hb : (hasS sType L').1 with
    | false =>
      have HB := Lib.hid hb
      have hnx : (hasS sType L').2 = L' := by
        cases L' with
        | nil => rfl
        | cons t l => rw [hasS_cons] at hb ⊢; split at hb <;> simp_all
      rw [hnx] at hP1
      have hgo := HT.out.trans (typesGo_end (f := L'.length) (acc := acc) HB.out)
      rw [hnx] at hgo
      have HG := Lib.hid hgo
      have HP1 := Lib.hid hP1
      have HS1 := Lib.hid hS1
      obtain ⟨r, line, col, t, l', rfl, hB, -, -, -, -, hr0, hr1, -⟩ := hP1.split
      have g0 := cells_of hB 0 (vs r) rfl
      have g3 := cells_of hB 3 (vs (shown t.s)) rfl
      have g4 := cells_of hB 4 (.int .i64 t.line) rfl
      have g5 := cells_of hB 5 (.int .i64 t.col) rfl
      have HR0 := Lib.hid hr0
      have HR1 := Lib.hid hr1
      clear hb hnx hgo hP1 hS1 hA1 HS HP' hr0 hr1 hB
      cases hts : t.s == [] with
      | true =>
        have hte := eq_of_beq hts
        have hr := HR0.out hte
        subst hr
        have hsh : shown t.s = [] := by rw [hte]; rfl
        rw [hsh] at g3
        have HTS := Lib.hid hts
        have m0 := cells_of HS1.out.sb 0 _ rfl
        have m1 := cells_of HS1.out.rb 0 _ rfl
        have f1 := frz_of HS1.out.rb 0
        clear hts hte hsh
        have hrow := heap_setCell_same w1 w.heap.size 0 _ _ (.slice A acc.length c) HS1.out.rb
        have HROW := Lib.hid hrow
        clear hrow
        go_wp2
        refine bodyPost_ret (results_cell_row rfl _ _ w.heap.size 25 #[.slice A acc.length c] (0, 0) _ rfl HROW.out Tryd.underlying25 rfl (by kernel_rfl)) rfl ?_
        rw [HTOT.out, HG.out]
        dsimp only
        rw [HTS.out, if_pos rfl]
        have hA := HS1.out.at0
        have hpw : pb < w.heap.size := HS1.out.hp
        have hT : Turn (fun b => b = w.heap.size) w1 (w1.setCell ⟨w.heap.size, 0, none⟩ (.slice A acc.length c)) := Turn.setCell _ _ _ rfl
        have hsl := HS1.out.ts.read (F := fun b => w.heap.size + 2 ≤ b) (by decide) (fun g hg => HS1.out.g1 g hg)
        refine ⟨hA.set_new (Nat.le_refl _) 0 _, ⟨A, acc.length, c, rfl, ?_⟩, HP1.out.kept (heap_setCell_other _ _ _ _ (by show pb ≠ w.heap.size; omega))⟩
        exact hsl.keep (by decide) (fun b hb _ => by omega) (turn_cell hT (fun b hb _ => by omega)) (fun y ys hy => hy.turn hT (fun b hb _ => ⟨by omega, by omega⟩))
      | false =>
        have HTS := Lib.hid hts
        have hfin : ∀ W, Below w1.heap.size w1 W → Ends pb 0 w (ScRet w) (schemaS L) (.panicked (dgChain ⟨t.line, t.col, 8⟩)) W := fun W hW => by
          rw [HTOT.out, HG.out]
          dsimp only
          rw [HTS.out, if_neg (by simp)]
          exact ⟨HS1.out.at0.below hW, rfl⟩
        have HFIN := Lib.hid hfin
        have hte : t.s ≠ [] := fun e => by rw [e] at hts; cases hts
        cases htq : t.s == [63] with
        | true =>
          have hr := HR1.out (eq_of_beq htq)
          have hsh : shown t.s = [] := by unfold shown; rw [htq]; rfl
          rw [hsh] at g3
          have hrb : (r == []) = false := by
            cases hx : r == []
            · rfl
            · exact absurd (eq_of_beq hx) hr
          have hrb' : r.isEmpty = false := by cases r with | nil => exact absurd rfl hr | cons a b => rfl
          clear hts hte htq hfin hr hsh
          go_wp2_with fail
          refine (fails_calls (vs []) ⟨t.line, t.col, 8⟩ w1 ⟨_, rfl⟩).mono ?_
          rintro e w2 ⟨rfl, hb⟩
          exact ⟨rfl, HFIN.out _ hb⟩
        | false =>
          have hsh : shown t.s = t.s := by unfold shown; rw [if_neg (by rw [htq]; simp)]
          rw [hsh] at g3
          have hrb' : t.s.isEmpty = false := by cases hx : t.s with | nil => exact absurd hx hte | cons a b => rfl
          clear hts hte htq hfin hsh
          go_wp2_with fail
          refine (fails_calls (vs t.s) ⟨t.line, t.col, 8⟩ w1 ⟨_, rfl⟩).mono ?_
          rintro e w2 ⟨rfl, hb⟩
          exact ⟨rfl, HFIN.out _ hb⟩
    | true =>
      have HB := Lib.hid hb
      have HP1 := Lib.hid hP1
      have HS1 := Lib.hid hS1
      clear hb hP1 hS1 hA1 HS HP'
      go_wp2_with fail
      refine (name_calls HP1.out).mono ?_
      intro e w2 h2
      have hS2 := HS1.out.turn h2.1
      rcases ends_name h2 with ⟨d, ho, rfl, -⟩ | ⟨s, l2, ho, rfl, -, hP2⟩
      · refine ⟨rfl, hS2.at0, ?_⟩
        rw [HTOT.out, HT.out, typesGo_err HB.out ho]
      have HBL := Lib.hid (hasS_less HB.out)
      have HTT := Lib.hid (typesGo_in (f := L'.length) (acc := acc) HB.out ho)
      have HL2 := Lib.hid (less_name _ _ _ ho)
      have HP2 := Lib.hid hP2
      have HS2 := Lib.hid hS2
      clear h2 ho hP2 hS2 HS1 HP1 HB
      go_wp2_with fail
      refine (rel_calls (HP2.out.kept (alloc_old _ HP2.out.lt))).mono ?_
      intro e w3 h3
      rcases ends_rel h3 with ⟨d, ho, rfl, hA3⟩ | ⟨o, l3, y0, A0, n0, c0, k0, y1, y2, A1, n1, c1, ho, rfl, hA3, hP3, hx⟩
      · refine ⟨rfl, (HS2.out.at0.trans (Turn.alloc _ _)).trans hA3, ?_⟩
        rw [HTOT.out, HT.out, HTT.out, relsOf_err ho]
      have hR := HS2.out.start s hA3 [vs y0, .slice A0 n0 c0, .int .i64 k0, vs y1, vs y2, .slice A1 n1 c1]
      have hl3 := less_rel _ _ _ ho
      have hat : RI pb w w2.heap.size s acc A c (relsOf (l2.length + 1) [] l2) (if o.isSome then l3.length + 1 else 0) (.pointer (some ⟨w3.heap.size, 0, none⟩)) (.bool o.isSome) (w3.alloc (.cells #[vs y0, .slice A0 n0 c0, .int .i64 k0, vs y1, vs y2, .slice A1 n1 c1] 48)) := by
        refine ⟨[], l3, none, 0, w3.heap.size, y0, A0, n0, c0, k0, y1, y2, A1, n1, c1, o, rfl, rfl, hP3.kept (alloc_old _ hP3.lt), hR, fun x hox => ?_, fun hox => ?_, ?_⟩
        · subst hox
          refine ⟨rfl, relsOf_on (Nat.le_refl _) ho, (hx x rfl).turn (S := fun _ => False) (Turn.alloc _ _) (fun b hb hl => ⟨fun h => h, ?_⟩)⟩
          simp at hb
          have := HS2.out.at0.size
          refine ⟨?_, by omega, by omega, fun e => ?_, fun e => by cases e⟩
          · have := lt_of_heap HS2.out.sb; omega
          · have := HS2.out.ts.block_lt e; omega
        · subst hox
          exact ⟨rfl, relsOf_end ho⟩
        · have h1 := HL2.out
          have h2 := HHS.out
          cases o with
          | none => simp; omega
          | some x => have h3 := less1_rel ho; simp; omega
      have HAT := Lib.hid hat
      clear hat hR hx hP3 hA3 ho h3
      generalize w2.heap.size = bt at *
      generalize htt : relsOf (l2.length + 1) [] l2 = tot2 at *
      have HTD := Lib.hid htt
      clear htt
      go_wp2_with fail
      go_loopg [5, 6] (if o.isSome then l3.length + 1 else 0) (fun k v5 v6 wr => RI pb w bt s acc A c tot2 k v5 v6 wr)
      case atStart => exact HAT.out
      case round =>
        clear HAT
        obtain ⟨acc2, L2, A2, c2, br, y0, A0, n0, c0, k0, y1, y2, A1, n1, c1, o, rfl, rfl, hP, hR, hT, hF, hlen2⟩ := hrel
        have HP3 := Lib.hid hP
        have HR := Lib.hid hR
        cases o with
        | none =>
          obtain ⟨-, htot⟩ := hF rfl
          have HT2 := Lib.hid htot
          clear hP hR hT hF htot
          have hlt2 := HTT.out
          rw [HT2.out] at hlt2
          dsimp only at hlt2
          have hnew : ∀ j u, [vs s, .slice A2 acc2.length c2][j]? = some u → (wr.alloc (.cells #[vs s, .slice A2 acc2.length c2] 35)).cell? ((⟨wr.heap.size, 0, none⟩ : Addr).add j) = some u := cell_two_new wr _ _ _
          have HN := Lib.hid hnew
          obtain ⟨css, hc1, hc2, hc3⟩ := HR.out.ts
          have HQ := Lib.hid (hc2.kept (w' := wr.alloc (.cells #[vs s, .slice A2 acc2.length c2] 35)) (fun g hg => alloc_old _ (hc2.block_lt hg)))
          have HC := Lib.hid (And.intro hc1 hc3)
          obtain ⟨t0, t1, p0, p1⟩ := two_of HR.out.tb
          have m0 := cells_of HR.out.sb 0 _ rfl
          have f0 := frz_of HR.out.sb 0
          have HLT := Lib.hid hlt2
          clear hnew hc1 hc2 hc3 hlt2
          go_wp2_with (at_builtin; go_loud (refine wpList_append_q rfl _ _ 23 rfl 35 j0 _ 2 40 Tryd.underlying23 JI.out JZ0.out JZ1.out JZ2.out rfl (by decide) _ acc.length _ rfl HQ.out ⟨wr.heap.size, 0, none⟩ 1 1 [vs s, .slice A2 acc2.length c2] rfl rfl HN.out (by intro u hu; simp at hu; rcases hu with rfl | rfl <;> rfl) (by unfold maxLen; omega) (by omega) ?_))
          intro v6 w6 hq hg hbk
          obtain ⟨A', c', rfl⟩ := QRow.form hq
          have hS6 := HR.out.done HC.out.1 HC.out.2 hq hg hbk
          have hsb : w6.heap[w.heap.size + 1]? = some (.cells #[.slice A acc.length c] 25 (0, 0)) := by
            have hl := lt_of_heap HR.out.sb
            rw [hg.block _ (by simp; omega) (fun e => by have := (HR.out.g1 _ e.symm).1; omega), alloc_old _ hl]; exact HR.out.sb
          have HP6 : Hid (PS (w6.setCell ⟨w.heap.size + 1, 0, none⟩ (.slice A' (acc.length + 1) c')) pb 0 L2) := Lib.hid (by
            have hl := HP3.out.lt
            refine HP3.out.kept ?_
            rw [heap_setCell_other _ _ _ _ (by show pb ≠ w.heap.size + 1; omega), hg.block pb (by simp; omega) (fun e => by have := (HR.out.g1 _ e.symm).1; omega), alloc_old _ hl])
          have HS6 := Lib.hid hS6
          clear t0 t1 p0 p1 m0 f0 hq hg hbk hS6
          have m0 := cells_of hsb 0 _ rfl
          have f0 := frz_of hsb 0
          clear hsb
          go_wp2
          have hlr := relsOf_less _ _ _ _ _ (HTD.out.trans HT2.out)
          have hbl := HBL.out
          have hl2 := HL2.out
          go_roundg (L2.length + 1)
          case measure => omega
          case rel =>
            refine ⟨acc ++ [⟨s, acc2⟩], L2, A', c', rfl, HP6.out, HS6.out, Lib.hid ?_, by simp; omega⟩
            rw [HT.out, HLT.out]
            exact typesGo_fuel _ _ _ _ (by omega) (by omega)
        | some x =>
          obtain ⟨rfl, htot, hx⟩ := hT x rfl
          have HT2 := Lib.hid htot
          have HX := Lib.hid hx
          clear hP hR hT hF htot hx
          have hnew : ∀ j u, [vs y0, .slice A0 n0 c0, .int .i64 k0, vs y1, vs y2, .slice A1 n1 c1][j]? = some u → (wr.alloc (.cells #[vs y0, .slice A0 n0 c0, .int .i64 k0, vs y1, vs y2, .slice A1 n1 c1] 48)).cell? ((⟨wr.heap.size, 0, none⟩ : Addr).add j) = some u := fun j u hu => by
            rw [Addr.add_lit, Nat.zero_add, cell_of_row _ _ _ _ _ (0, 0) (heap_alloc_new wr _)]
            simpa using hu
          have HN := Lib.hid hnew
          obtain ⟨css, hc1, hc2, hc3⟩ := HR.out.rs
          have HQ := Lib.hid (hc2.kept (w' := wr.alloc (.cells #[vs y0, .slice A0 n0 c0, .int .i64 k0, vs y1, vs y2, .slice A1 n1 c1] 48)) (fun g hg => alloc_old _ (hc2.block_lt hg)))
          have HC := Lib.hid (And.intro hc1 hc3)
          obtain ⟨m0, m1, m2, m3, m4, m5, f0, f1, f2, f3, f4, f5⟩ := six_of (show wr.heap[br]? = some (.cells #[vs y0, .slice A0 n0 c0, .int .i64 k0, vs y1, vs y2, .slice A1 n1 c1] 48 (0, 0)) from HR.out.rc)
          obtain ⟨t0, t1, p0, p1⟩ := two_of HR.out.tb
          clear hnew hc1 hc2 hc3
          go_wp2_with (at_builtin; go_loud (refine wpList_append_q rfl _ _ 33 rfl 48 i0 _ 6 104 Tryd.underlying33 HI.out HZ0.out HZ1.out HZ2.out rfl (by decide) _ acc2.length _ rfl HQ.out ⟨wr.heap.size, 0, none⟩ 1 1 [vs y0, .slice A0 n0 c0, .int .i64 k0, vs y1, vs y2, .slice A1 n1 c1] rfl rfl HN.out (by intro u hu; simp at hu; rcases hu with rfl | rfl | rfl | rfl | rfl | rfl <;> rfl) (by unfold maxLen; omega) (by omega) ?_))
          intro v6 w6 hq hg hbk
          obtain ⟨A2', c2', rfl⟩ := QRow.form hq
          have hR6 := HR.out.push HX.out rfl HC.out.1 HC.out.2 hq hg hbk
          have hbr : w6.heap[br]? = some (.cells #[vs y0, .slice A0 n0 c0, .int .i64 k0, vs y1, vs y2, .slice A1 n1 c1] 48 (0, 0)) := by
            have hl := lt_of_heap HR.out.rc
            rw [hg.block br (by simp; omega) (fun e => (HR.out.g2 _ e.symm).2.2 rfl), alloc_old _ hl]; exact HR.out.rc
          have hbt : w6.heap[bt]? = some (.cells #[vs s, .slice A2 acc2.length c2] 35 (0, 0)) := by
            have hl := lt_of_heap HR.out.tb
            rw [hg.block bt (by simp; omega) (fun e => (HR.out.g2 _ e.symm).2.1 rfl), alloc_old _ hl]; exact HR.out.tb
          have hne := HR.out.hne
          have hne' := hne.symm
          have HR6 := Lib.hid hR6
          have HP6 : Hid (PS ((w6.setCell ⟨bt, 1, none⟩ (.slice A2' (acc2.length + 1) c2')).alloc (.cells #[vs y0, .slice A0 n0 c0, .int .i64 k0, vs y1, vs y2, .slice A1 n1 c1] 48)) pb 0 L2) := Lib.hid (by
            have hl := HP3.out.lt
            have hgs := hg.size
            have h1 := HR.out.ht
            refine HP3.out.kept ?_
            rw [alloc_old _ (by simp at hgs ⊢; omega), heap_setCell_other _ _ _ _ (by show pb ≠ bt; omega), hg.block pb (by simp; omega) (fun e => by have := (HR.out.g2 _ e.symm).1; omega), alloc_old _ hl])
          clear m0 m1 m2 m3 m4 m5 f0 f1 f2 f3 f4 f5 t0 t1 p0 p1 hq hg hbk hR6
          obtain ⟨m0, m1, m2, m3, m4, m5, f0, f1, f2, f3, f4, f5⟩ := six_of hbr
          obtain ⟨t0, t1, p0, p1⟩ := two_of hbt
          clear hbr hbt
          go_wp2_with fail
          refine (rel_calls HP6.out).mono ?_
          intro e w7 h7
          rcases ends_rel h7 with ⟨d, ho, rfl, hA7⟩ | ⟨o7, l7, z0, B0, i0', d0, q0, z1, z2, B1, i1, d1, ho, rfl, hA7, hP7, hx7⟩
          · refine ⟨rfl, HR6.out.at0.trans hA7, ?_⟩
            rw [HTOT.out, HT.out, HTT.out, HT2.out, relsOf_err ho]
          have hpb6 : pb < w.heap.size := HR6.out.hp
          have hrc7 := hA7.kept HR6.out.rc (by have := HR6.out.hr; omega)
          have hR7 := HR6.out.turn hA7 (fun b hb => .inl hb) hrc7
          have hx7' : ∀ x7, o7 = some x7 → RelR w7 (RF w bt w6.heap.size (own A acc.length c) (own A2' (acc2 ++ [x]).length c2')) x7 [vs z0, .slice B0 i0' d0, .int .i64 q0, vs z1, vs z2, .slice B1 i1 d1] := fun x7 h7 => (hx7 x7 h7).turn (S := fun _ => False) (Turn.refl _ _) (fun b hb hl => ⟨fun h => h, by
            have l1 := HR6.out.ht
            have l2 := lt_of_heap HR6.out.tb
            have l3 := lt_of_heap HR6.out.rc
            refine ⟨by omega, by omega, by omega, fun e => ?_, fun e => ?_⟩
            · have := HR6.out.ts.block_lt e; omega
            · have := HR6.out.rs.block_lt e; omega⟩)
          have HR7 := Lib.hid hR7
          have HX7 := Lib.hid hx7'
          have HP7 := Lib.hid hP7
          have HO7 := Lib.hid ho
          have HNE := Lib.hid hne
          clear hne hne' m0 m1 m2 m3 m4 m5 f0 f1 f2 f3 f4 f5 t0 t1 p0 p1 h7 ho hA7 hP7 hx7 hx7' hR7
          obtain ⟨m0, m1, m2, m3, m4, m5, f0, f1, f2, f3, f4, f5⟩ := six_of hrc7
          have HRC7 := Lib.hid hrc7
          clear hrc7
          generalize w6.heap.size = br6 at *
          go_wp2
          have hT8 : Turn (fun b => b = br6) w7 ((((((w7.setCell ⟨br6, 0, none⟩ (vs z0)).setCell ⟨br6, 1, none⟩ (.slice B0 i0' d0)).setCell ⟨br6, 2, none⟩ (.int .i64 q0)).setCell ⟨br6, 3, none⟩ (vs z1)).setCell ⟨br6, 4, none⟩ (vs z2)).setCell ⟨br6, 5, none⟩ (.slice B1 i1 d1)) := turn_set6 _ _ _ _ _ _ _ _
          have hR8 := HR7.out.turn hT8 (fun b hb => .inr hb) (cs' := [vs z0, .slice B0 i0' d0, .int .i64 q0, vs z1, vs z2, .slice B1 i1 d1]) (set6 HRC7.out _ _ _ _ _ _)
          have hl7 := less_rel _ _ _ HO7.out
          have hlen7 : (acc2 ++ [x]).length = acc2.length + 1 := by simp
          go_roundg (if o7.isSome then l7.length + 1 else 0)
          case measure =>
            cases o7 with
            | none => simp
            | some x7 => have := less1_rel HO7.out; simp; omega
          case rel =>
            refine ⟨acc2 ++ [x], l7, A2', c2', br6, z0, B0, i0', d0, q0, z1, z2, B1, i1, d1, o7, rfl, rfl, HP7.out.kept (set6_old (by have := HR7.out.hr; omega) _ _ _ _ _ _), hR8, fun x7 h7 => ?_, fun h7 => ?_, ?_⟩
            · subst h7
              refine ⟨rfl, ?_, (HX7.out x7 rfl).turn hT8 (fun b hb _ => ⟨hb.2.2.1, hb⟩)⟩
              rw [HT2.out, relsOf_on (Nat.le_refl _) HO7.out]
            · subst h7
              exact ⟨rfl, by rw [HT2.out, relsOf_end HO7.out]⟩
            · simp at hlen2
              cases o7 with
              | none => simp; omega
              | some x7 => have := less1_rel HO7.out; simp; omega
end Go.Proofs.YtgmlcnikphbiiaaDoor.L

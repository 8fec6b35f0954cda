/-
  LangAgain: the walk.
-/
import Derived.Test.YtgmlcnikphbiiaaDoorLangPo
import Derived.Test.YtgmlcnikphbiiaaDoorLangPp
import Derived.Test.YtgmlcnikphbiiaaDoorLangW
namespace Go.Proofs.YtgmlcnikphbiiaaDoor.L
open Go.RowKit Go.Proofs.YtgmlcnikphbiiaaDoor.B Go.Proofs.YtgmlcnikphbiiaaDoor.S10 Go.Proofs.YtgmlcnikphbiiaaDoor.Nm
open Go.Proofs.YtgmlcnikphbiiaaDoor.C (QRow Turn wpList_append_q)
set_option linter.unusedVariables false
set_option linter.unusedSimpArgs false

def tsO : Except Dg (List Ty) → List Ty
  | .error _ => []
  | .ok ts => ts
def dgO : Except Dg (List Ty) → Dg
  | .error d => d
  | .ok _ => ⟨0, 0, 0⟩
theorem par_valO {w : World} {r : Except Dg (List Ty)} {e : Ending} {w' : World} (h : PaRet w r e w') : Below w.heap.size w w' ∧
    ∃ A n c, e = .returned (.tuple #[.agg #[.slice A n c], .agg #[.int .i64 (dgO r).line, .int .i64 (dgO r).col, .int .i64 (dgO r).e]]) ∧ SlV w' (fun b => w.heap.size ≤ b) 2 (TyR w' (fun b => w.heap.size ≤ b)) (tsO r) A n := by
  obtain ⟨hb, ⟨d, rfl, he⟩ | ⟨ts, A, n, c, rfl, he, hs⟩⟩ := par_cases h
  · exact ⟨hb, none, 0, 0, he, rfl, by omega, fun k x hx => by simp [tsO] at hx⟩
  · exact ⟨hb, A, n, c, he, hs⟩
/-- what is known of a schema that a text says. -/
structure Told (ts : List Ty) : Prop where
  may : mayS ts = true
  fit : FitS ts
  refs : ∀ i j, (rlAt (tyAt ts i).rels j).refs.length ≤ 100000
  len : (printT ts).length ≤ 10000000000000
theorem flat_bound {α : Type} (f : α → Bs) (B : Nat) : ∀ (xs : List α), (∀ x ∈ xs, (f x).length ≤ B) → (xs.flatMap f).length ≤ xs.length * B
  | [], _ => by simp
  | x :: xs, h => by
    rw [List.flatMap_cons, List.length_append, List.length_cons, Nat.add_mul, Nat.one_mul]
    have := h x (by simp)
    have := flat_bound f B xs (fun y hy => h y (by simp [hy]))
    omega
theorem fitF_of {xs : List Rf} (h : xs.all mayF = true) (i : Nat) : FitF (rfAt xs i) := by
  unfold rfAt
  rw [List.getD_eq_getElem?_getD]
  by_cases hi : i < xs.length
  · rw [List.getElem?_eq_getElem hi]
    have := refT_len (List.all_eq_true.1 h _ (List.getElem_mem hi))
    exact ⟨by show (xs[i]).ty.length ≤ _; omega, by show (xs[i]).rel.length ≤ _; omega⟩
  · rw [List.getElem?_eq_none (by omega)]
    exact ⟨by simp, by simp⟩
theorem mayR_refs {r : Rl} (h : mayR r = true) : r.refs.all mayF = true := by
  unfold mayR at h
  rw [Bool.and_eq_true] at h
  cases hr : r.refs with
  | nil => rfl
  | cons a l => rw [hr] at h; exact h.2
theorem fitR_of {r : Rl} (h : mayR r = true) (hx : r.ex.Fit) : FitR r := by
  have h2 := mayR_refs h
  unfold mayR at h
  rw [Bool.and_eq_true] at h
  have := (nm_len h.1).2
  exact ⟨by omega, fitF_of h2, hx⟩
theorem fitR_0 : FitR ⟨[], [], leaf 0 [] []⟩ := ⟨by simp, fun i => fitF_of rfl i, leaf_fit _ _ _ (by simp) (by simp)⟩
theorem lineT_len {r : Rl} {N : Nat} (h : mayR r = true) (hn : r.refs.length ≤ N) : (lineT r).length ≤ 170000 + 36 * N := by
  have h2 := refsT_len r.refs (mayR_refs h)
  unfold mayR at h
  rw [Bool.and_eq_true] at h
  have := (nm_len h.1).2
  unfold lineT
  cases hr : r.refs.isEmpty with
  | true =>
    rw [hr] at h
    have := showE_len 12 r.ex h.2
    simp [defineB]
    omega
  | false =>
    simp [relationB]
    omega
theorem told (text : Bs) (h : text.length ≤ 100000) : Told (tsO (parseP text)) := by
  cases hp : parseP text with
  | error d =>
    show Told []
    refine ⟨rfl, fun i => ?_, fun i j => ?_, by simp [printT]⟩
    · show FitT (([] : List Ty).getD i ⟨[], []⟩)
      simp
      exact ⟨by simp, fun j => by show FitR (([] : List Rl).getD j ⟨[], [], leaf 0 [] []⟩); simp; exact fitR_0⟩
    · show ((([] : List Ty).getD i ⟨[], []⟩).rels.getD j ⟨[], [], leaf 0 [] []⟩).refs.length ≤ _
      simp
  | ok ts =>
    have hm := parse_may hp
    have hmt := List.all_eq_true.1 (show ts.all mayT = true from hm)
    have hk : (∀ t ∈ ts, KnT 4097 t) ∧ ts.length ≤ 4097 := by
      unfold parseP at hp
      split at hp
      · cases hp
      · rename_i hl
        split at hp
        · cases hp
        · rename_i ts' l hs
          cases hp
          rw [schemaS_eq] at hs
          have htl := tokens_len text 1 1
          cases ht : typesGo ((tokens text 1 1).length + 1) [] (tokens text 1 1) with
          | error d => rw [ht] at hs; cases hs
          | ok p =>
            obtain ⟨ts2, l2⟩ := p
            rw [ht] at hs
            have hk := types_known 4097 _ _ _ _ _ (by omega) ht (fun t h => by cases h)
            have hk2 := hk.2
            simp at hk2
            cases l2 with
            | nil => cases hs
            | cons t l2 =>
              have : fin3 (.ok (ts2, t :: l2)) = if t.s == [] then .ok (ts2, t :: l2) else t.fail 8 := rfl
              rw [this] at hs
              split at hs
              · cases hs; exact ⟨hk.1, by omega⟩
              · cases hs
    have hR : ∀ t ∈ ts, ∀ r ∈ t.rels, mayR r = true := fun t ht r hr => by
      have := hmt t ht
      unfold mayT at this
      rw [Bool.and_eq_true] at this
      exact List.all_eq_true.1 this.2 r hr
    show Told ts
    refine ⟨hm, fun i => ?_, fun i j => ?_, ?_⟩
    · by_cases hi : i < ts.length
      · have hmem := tyAt_mem hi
        have := hmt _ hmem
        unfold mayT at this
        rw [Bool.and_eq_true] at this
        have := (nm_len this.1).2
        refine ⟨Nat.le_trans this (by decide), fun j => ?_⟩
        by_cases hj : j < (tyAt ts i).rels.length
        · exact fitR_of (hR _ hmem _ (rlAt_mem hj)) ((hk.1 _ hmem).1 _ (rlAt_mem hj)).1
        · unfold rlAt
          rw [List.getD_eq_getElem?_getD, List.getElem?_eq_none (Nat.le_of_not_lt hj)]
          exact fitR_0
      · show FitT (ts.getD i ⟨[], []⟩)
        rw [List.getD_eq_getElem?_getD, List.getElem?_eq_none (by omega)]
        exact ⟨by simp, fun j => by show FitR (([] : List Rl).getD j ⟨[], [], leaf 0 [] []⟩); simp; exact fitR_0⟩
    · by_cases hi : i < ts.length
      · by_cases hj : j < (tyAt ts i).rels.length
        · have := ((hk.1 _ (tyAt_mem hi)).1 _ (rlAt_mem hj)).2
          exact Nat.le_trans this (by decide)
        · unfold rlAt
          rw [List.getD_eq_getElem?_getD, List.getElem?_eq_none (Nat.le_of_not_lt hj)]
          simp
      · show (rlAt (ts.getD i ⟨[], []⟩).rels j).refs.length ≤ _
        rw [List.getD_eq_getElem?_getD, List.getElem?_eq_none (by omega)]
        simp [rlAt]
    · have : (printT ts).length ≤ ts.length * 1400000000 := flat_bound tyT 1400000000 ts (fun t ht => by
        have h1 := flat_bound lineT 320000 t.rels (fun r hr => by have := lineT_len (hR t ht r hr) ((hk.1 t ht).1 r hr).2; omega)
        have h2 := (hk.1 t ht).2
        have := hmt t ht
        unfold mayT at this
        rw [Bool.and_eq_true] at this
        have := (nm_len this.1).2
        have : t.rels.length * 320000 ≤ 4097 * 320000 := Nat.mul_le_mul_right _ h2
        unfold tyT typeB
        simp only [List.length_append, List.length_cons, List.length_nil]
        omega)
      have : ts.length * 1400000000 ≤ 4097 * 1400000000 := Nat.mul_le_mul_right _ hk.2
      show (printT ts).length ≤ _
      omega
set_option maxRecDepth 100000 in
set_option maxHeartbeats 8000000 in
theorem LangAgain_list (text : Bs) (hl : text.length ≤ 140737488351232) (w : World) : Calls Tryd.prog 7 #[vs text] w (BRet w true) := by
  have hsz := sz text
  by_cases hlong : 5000 < text.length
  · go_enter Tryd.func7, Tryd.ntmps7
    go_wp2_with fail
    refine (awake_calls w).mono ?_
    rintro e w0 ⟨rfl, hb0⟩
    have HB0 := Lib.hid hb0
    clear hb0
    go_wp2
    go_ret
    exact ⟨rfl, HB0.out⟩
  have P1 := Lib.hid (fun w => Parse_calls text w (by omega))
  have HT := Lib.hid (told text (by omega))
  generalize parseP text = r at *
  go_enter Tryd.func7, Tryd.ntmps7
  go_wp2_with fail
  refine (awake_calls w).mono ?_
  rintro e w0 ⟨rfl, hb0⟩
  have HB0 := Lib.hid hb0
  clear hb0
  go_wp2_with fail
  refine (P1.out w0).mono ?_
  intro e w1 h1
  obtain ⟨hb1, A, n, c, rfl, hs1⟩ := par_valO h1
  have HB1 := Lib.hid (belAlloc (belAlloc (keepB HB0.out hb1) (.cells #[.slice A n c] 25)) (.cells #[.int .i64 (dgO r).line, .int .i64 (dgO r).col, .int .i64 (dgO r).e] 28))
  have HS1 := Lib.hid (types_below (types_below hs1 ((Below.refl _ _).alloc (Nat.le_refl _) (.cells #[.slice A n c] 25))) ((Below.refl _ _).alloc (Nat.le_refl _) (.cells #[.int .i64 (dgO r).line, .int .i64 (dgO r).col, .int .i64 (dgO r).e] 28)))
  have g0 := heap_alloc_new w1 (.cells #[.slice A n c] 25)
  have g0' := (alloc_old (.cells #[.int .i64 (dgO r).line, .int .i64 (dgO r).col, .int .i64 (dgO r).e] 28) (lt_of_heap g0)).trans g0
  have HG := Lib.hid g0'
  clear h1 hb1 hs1 g0 g0'
  generalize (dgO r).line = a at *
  generalize (dgO r).col = b at *
  generalize (dgO r).e = k at *
  generalize tsO r = ts at *
  by_cases hk : k = 0
  rotate_left
  · have hk' : (k == 0) = false := by simpa using hk
    have hk'' : (k != 0) = true := by simpa using hk
    clear hk
    go_wp2
    go_ret
    exact ⟨rfl, HB1.out⟩
  subst hk
  go_wp2_with fail
  refine (Print_calls _ ts A n c _ HS1.out HT.out.fit HT.out.refs HT.out.len).mono ?_
  rintro e w2 ⟨rfl, hb2⟩
  have HB2 := Lib.hid (keepB HB1.out hb2)
  have HS2 := Lib.hid (types_below HS1.out hb2)
  have hg2 := (hb2.block _ (lt_of_heap HG.out)).trans HG.out
  have HG2 := Lib.hid hg2
  have s0 := cells_of hg2 0 (.slice A n c) rfl
  clear hb2 hg2
  have HBK := Lib.hid (fun h => back HT.out.may h)
  have HT2 := Lib.hid (fun (h : (printP ts).length ≤ 4096) => told (printP ts) (by omega))
  have hsp := sz (printP ts)
  have hpl : (printP ts).length ≤ 10000000000000 := by
    have := HT.out.len
    unfold printP
    split
    · exact this
    · simp
  generalize printP ts = pt at *
  go_wp2_with fail
  refine (May_calls _ ts A n c _ HS2.out HT.out.fit).mono ?_
  rintro e w3 ⟨rfl, hb3⟩
  rw [HT.out.may]
  have HB3 := Lib.hid (keepB HB2.out hb3)
  have HS3 := Lib.hid (types_below HS2.out hb3)
  have hg3 := (hb3.block _ (lt_of_heap HG2.out)).trans HG2.out
  have HG3 := Lib.hid hg3
  have s0 := cells_of hg3 0 (.slice A n c) rfl
  clear hb3 hg3
  by_cases hbig : 4096 < pt.length
  · go_wp2_with fail
    refine (May_calls _ ts A n c _ HS3.out HT.out.fit).mono ?_
    rintro e w4 ⟨rfl, hb4⟩
    rw [HT.out.may]
    have HB4 := Lib.hid (keepB HB3.out hb4)
    clear hb4
    go_wp2
    go_ret
    exact ⟨rfl, HB4.out⟩
  obtain ⟨ts', hp1, hp2, hp3, hp4, hp5⟩ := HBK.out (by omega)
  have hT2 := HT2.out (by omega)
  rw [hp1] at hT2
  have HTT : Hid (Told ts') := Lib.hid hT2
  have HP3 := Lib.hid hp3
  have HP5 := Lib.hid hp5
  have P2 := Lib.hid (fun w => Parse_calls pt w (by omega))
  rw [hp1] at P2
  clear hp1 hp2 hp3 hp4 hp5 hT2
  go_wp2_with fail
  refine (P2.out _).mono ?_
  intro e w4 h4
  obtain ⟨hb4, A', n', c', rfl, hs4⟩ := par_ok h4
  have HB4 := Lib.hid (keepB HB3.out hb4)
  have HS4 := Lib.hid (types_below HS3.out hb4)
  have HS4' := Lib.hid hs4
  have hg4 := (hb4.block _ (lt_of_heap HG3.out)).trans HG3.out
  have HKB := Lib.hid (((Below.refl w4.heap.size w4).alloc (Nat.le_refl _) (.cells #[.slice A' n' c'] 25)).alloc (by simp) (.cells #[.int .i64 0, .int .i64 0, .int .i64 0] 28))
  have k0 := heap_alloc_new w4 (.cells #[.slice A' n' c'] 25)
  have k1 := heap_alloc_new (w4.alloc (.cells #[.slice A' n' c'] 25)) (.cells #[.int .i64 0, .int .i64 0, .int .i64 0] 28)
  rw [show (w4.alloc (.cells #[.slice A' n' c'] 25)).heap.size = w4.heap.size + 1 by simp] at k1
  have k0' := (alloc_old (.cells #[.int .i64 0, .int .i64 0, .int .i64 0] 28) (lt_of_heap k0)).trans k0
  have hg5 := (HKB.out.block _ (lt_of_heap hg4)).trans hg4
  have s1 := cells_of hg5 0 (.slice A n c) rfl
  have s2 := cells_of k0' 0 (.slice A' n' c') rfl
  have HK0 := Lib.hid k0'
  have HK1 := Lib.hid k1
  clear h4 hb4 hs4 hg4 hg5 k0 k0' k1 s0
  go_wp2_with fail
  refine (Schemas_calls _ _ ts ts' _ _ _ ⟨A, n, c, rfl, types_below HS4.out HKB.out⟩ ⟨A', n', c', rfl, types_below HS4'.out HKB.out⟩).mono ?_
  rintro e w5 ⟨rfl, hb5⟩
  rw [HP3.out]
  have HB5 := Lib.hid (keepB HB4.out (below_then HKB.out HKB.out.size hb5))
  have HS5 := Lib.hid (types_below (types_below HS4'.out HKB.out) hb5)
  have j0 := cells_of ((hb5.block _ (lt_of_heap HK0.out)).trans HK0.out) 0 (.slice A' n' c') rfl
  obtain ⟨j1, j2, j3⟩ := three_of ((hb5.block _ (lt_of_heap HK1.out)).trans HK1.out)
  clear hb5 s1 s2
  go_wp2_with fail
  refine (Print_calls _ ts' A' n' c' _ HS5.out HTT.out.fit HTT.out.refs HTT.out.len).mono ?_
  rintro e w6 ⟨rfl, hb6⟩
  rw [HP5.out]
  have HB6 := Lib.hid (keepB HB5.out hb6)
  clear hb6
  go_wp2
  go_ret
  exact ⟨rfl, HB6.out⟩
theorem LangAgain_calls (s : ByteArray) (w : World) (hs : s.size ≤ 140737488351232) : Calls Tryd.prog 7 #[.string s] w (BRet w true) := by
  obtain ⟨⟨l⟩⟩ := s
  exact LangAgain_list l (by rw [sz] at hs; exact hs) w
end Go.Proofs.YtgmlcnikphbiiaaDoor.L

/-
  The parser's chain of expressions.
-/
import Derived.Test.YtgmlcnikphbiiaaDoorLangF
import Derived.Deep.LoopGhost
namespace Go.Proofs.YtgmlcnikphbiiaaDoor.L
open Go.RowKit Go.Proofs.YtgmlcnikphbiiaaDoor.B
open Go.Proofs.YtgmlcnikphbiiaaDoor.C (QRow Turn)
set_option linter.unusedVariables false
set_option linter.unusedSimpArgs false

def ExRet (w : World) (w' : World) (a : Ex) (e : Ending) : Prop := ∃ v, e = .returned v ∧ ExV w' (fun b => w.heap.size ≤ b) a v
theorem chainS_err {S : Bs} {K : Bs → Int} {one : P Ex} {L : List Tk} {d : Dg} (h : one L = .error d) : chainS S K one L = .error d := by unfold chainS; rw [h]
theorem chainS_ok {S : Bs} {K : Bs → Int} {one : P Ex} {L : List Tk} {a : Ex} {l : List Tk} (h : one L = .ok (a, l)) : chainS S K one L = chainGo S K one l.length a l := by unfold chainS; rw [h]
theorem chainGo_err {S : Bs} {K : Bs → Int} {one : P Ex} {a : Ex} {t : Tk} {l : List Tk} {d : Dg} (hs : S.any (fun c => t.s == [c]) = true) (h : one l = .error d) : chainGo S K one (t :: l).length a (t :: l) = .error d := by
  show chainGo S K one (l.length + 1) a (t :: l) = _
  unfold chainGo
  rw [if_pos hs]
  dsimp only
  rw [h]
theorem chainGo_cons {S : Bs} {K : Bs → Int} {one : P Ex} (f : Nat) {a : Ex} {t : Tk} {l : List Tk} (hs : S.any (fun c => t.s == [c]) = true) : chainGo S K one (f + 1) a (t :: l) = (match one l with
      | .error d => .error d
      | .ok (b, l') => if (two (K t.s) a b).height > 12 then t.fail 9 else chainGo S K one f (two (K t.s) a b) l') := by
  conv => lhs; unfold chainGo
  rw [if_pos hs]
  rfl
theorem chainGo_deep {S : Bs} {K : Bs → Int} {one : P Ex} {a b : Ex} {t : Tk} {l l' : List Tk} (hs : S.any (fun c => t.s == [c]) = true) (h : one l = .ok (b, l')) (hh : (two (K t.s) a b).height > 12) :
    chainGo S K one (t :: l).length a (t :: l) = t.fail 9 := by
  show chainGo S K one (l.length + 1) a (t :: l) = _
  unfold chainGo
  rw [if_pos hs]
  dsimp only
  rw [h]
  dsimp only
  rw [if_pos hh]
theorem chainGo_on {S : Bs} {K : Bs → Int} {one : P Ex} {a b : Ex} {t : Tk} {l l' : List Tk} (h1 : Less one) (hs : S.any (fun c => t.s == [c]) = true) (h : one l = .ok (b, l')) (hh : ¬ (two (K t.s) a b).height > 12) :
    chainGo S K one (t :: l).length a (t :: l) = chainGo S K one l'.length (two (K t.s) a b) l' := by
  have hl := h1 _ _ _ h
  show chainGo S K one (l.length + 1) a (t :: l) = _
  rw [chainGo_cons l.length hs, h]
  dsimp only
  rw [if_neg hh]
  exact chainGo_fuel h1 l.length l'.length _ l' hl (Nat.le_refl _)
theorem zero38 (w : World) : (zeroValue 38).run Tryd.prog w = .ok (.agg #[.int .i64 0, .string ⟨#[]⟩, .string ⟨#[]⟩, .slice none 0 0]) w := by kernel_rfl
theorem cell_congr {w w' : World} {a : Addr} (h : w'.heap[a.block]? = w.heap[a.block]?) : w'.cell? a = w.cell? a := by
  unfold World.cell?
  rw [h]
theorem At.keep {pb : Nat} {w w' : World} (h : At pb w w') {b : Nat} (hb : b < w.heap.size) (hne : b ≠ pb) : w'.heap[b]? = w.heap[b]? := h.block b hb hne
theorem At.set_new {pb : Nat} {w w' : World} (h : At pb w w') {b : Nat} (hb : w.heap.size ≤ b) (o : Nat) (v : Value) : At pb w (w'.setCell ⟨b, o, none⟩ v) :=
  Turn.trans h (Turn.setCell (fp := fun k => k = b) w' ⟨b, o, none⟩ v rfl) (fun k hk hlt => by omega)
theorem At.alloc_new {pb : Nat} {w w' : World} (h : At pb w w') (o : Obj) : At pb w (w'.alloc o) := h.trans (Turn.alloc w' o)
theorem lt_of_heap {w : World} {b : Nat} {o : Obj} (h : w.heap[b]? = some o) : b < w.heap.size := (Array.getElem?_eq_some_iff.1 h).1
theorem ExV.at {w w' : World} {F F' : Nat → Prop} {e : Ex} {v : Value} {pb : Nat} (h : ExV w F e v) (hA : At pb w w') (hF : ∀ b, F b → b < w.heap.size → b ≠ pb ∧ F' b) : ExV w' F' e v :=
  ExV.keep (fun b hb hl => (hF b hb hl).2) (fun a x ha hx => by
    have hl := World.block_lt_of_cell? w a hx
    rw [cell_congr (hA.keep hl (hF _ ha hl).1)]; exact hx) e v h
theorem ExV.mono {w : World} {F F' : Nat → Prop} {e : Ex} {v : Value} (h : ExV w F e v) (hF : ∀ b, F b → b < w.heap.size → F' b) : ExV w F' e v := ExV.keep hF (fun _ _ _ hx => hx) e v h
theorem ExV.set {w : World} {F : Nat → Prop} {e : Ex} {v : Value} (h : ExV w F e v) {c : Nat} (hF : ∀ b, F b → b ≠ c) (o : Nat) (x : Value) : ExV (w.setCell ⟨c, o, none⟩ x) F e v :=
  ExV.keep (fun _ hb _ => hb) (fun a y ha hy => by
    rw [cell_congr (heap_setCell_other w ⟨c, o, none⟩ a.block x (hF _ ha))]; exact hy) e v h
theorem ExV.alloc {w : World} {F : Nat → Prop} {e : Ex} {v : Value} (h : ExV w F e v) (o : Obj) : ExV (w.alloc o) F e v := h.below ((Below.refl _ w).alloc (Nat.le_refl _) o)
/-- a variable of four cells is stored. -/
theorem set4 {w : World} {b : Nat} {x0 x1 x2 x3 : Value} {e : TypeId} (h : w.heap[b]? = some (.cells #[x0, x1, x2, x3] e (0, 0))) (y0 y1 y2 y3 : Value) :
    ((((w.setCell ⟨b, 0, none⟩ y0).setCell ⟨b, 1, none⟩ y1).setCell ⟨b, 2, none⟩ y2).setCell ⟨b, 3, none⟩ y3).heap[b]? = some (.cells #[y0, y1, y2, y3] e (0, 0)) :=
  heap_setCell_same _ b 3 _ _ _ (heap_setCell_same _ b 2 _ _ _ (heap_setCell_same _ b 1 _ _ _ (heap_setCell_same w b 0 _ _ _ h)))
def Low (p : P Ex) : Prop := ∀ L a l, p L = .ok (a, l) → a.height ≤ 12
theorem low_chainGo {S : Bs} {K : Bs → Int} {one : P Ex} : ∀ (f : Nat) (a : Ex), a.height ≤ 12 → Low (chainGo S K one f a) := by
  intro f
  induction f with
  | zero =>
    intro a ha L b l h
    cases L with
    | nil => cases h; exact ha
    | cons t r =>
      unfold chainGo at h
      split at h
      · cases h
      · cases h; exact ha
  | succ f ih =>
    intro a ha L b l h
    cases L with
    | nil => cases h; exact ha
    | cons t r =>
      unfold chainGo at h
      split at h
      · dsimp only at h
        split at h
        · cases h
        · split at h
          · cases h
          · rename_i hh
            exact ih _ (by omega) _ _ _ h
      · cases h; exact ha
theorem low_chain {S : Bs} {K : Bs → Int} {one : P Ex} (h1 : Low one) : Low (chainS S K one) := by
  intro L a l h
  unfold chainS at h
  split at h
  · cases h
  · rename_i b r hb
    exact low_chainGo _ _ (h1 _ _ _ hb) _ _ _ h
theorem leaf_height (k : Int) (a b : Bs) : (leaf k a b).height = 1 := rfl
theorem low_atom {inner : Option (P Ex)} (hi : ∀ p, inner = some p → Low p) : Low (atomF inner) := by
  intro L a l h
  unfold atomF at h
  split at h
  · split at h
    · unfold failsL at h
      split at h <;> cases h
    · rename_i p
      unfold inAtom at h
      split at h
      · cases h
      · rename_i e r he
        have := hi p rfl _ _ _ he
        split at h
        · cases h
        · cases h; exact this
  · unfold nameAtom at h
    split at h
    · cases h
    · split at h
      · split at h
        · cases h
        · cases h; rw [leaf_height]; omega
      · cases h; rw [leaf_height]; omega
theorem low_expr : ∀ d, Low (exprS d)
  | 0 => low_chain (low_chain (low_atom (fun p h => by cases h)))
  | d + 1 => low_chain (low_chain (low_atom (fun p h => by cases h; exact low_expr d)))
theorem low_inner (d : Nat) : ∀ p, innerS d = some p → Low p := by
  intro p h
  cases d with
  | zero => cases h
  | succ d => cases h; exact low_expr d
theorem four_of {w : World} {b : Nat} {x0 x1 x2 x3 : Value} {e : TypeId} (h : w.heap[b]? = some (.cells #[x0, x1, x2, x3] e (0, 0))) :
    w.cell? ⟨b, 0, none⟩ = some x0 ∧ w.cell? ⟨b, 1, none⟩ = some x1 ∧ w.cell? ⟨b, 2, none⟩ = some x2 ∧ w.cell? ⟨b, 3, none⟩ = some x3 ∧
    w.frozen? ⟨b, 0, none⟩ = false ∧ w.frozen? ⟨b, 1, none⟩ = false ∧ w.frozen? ⟨b, 2, none⟩ = false ∧ w.frozen? ⟨b, 3, none⟩ = false :=
  ⟨cells_of h 0 _ rfl, cells_of h 1 _ rfl, cells_of h 2 _ rfl, cells_of h 3 _ rfl, frz_of h 0, frz_of h 1, frz_of h 2, frz_of h 3⟩
theorem three_of {w : World} {b : Nat} {x0 x1 x2 : Value} {e : TypeId} (h : w.heap[b]? = some (.cells #[x0, x1, x2] e (0, 0))) :
    w.cell? ⟨b, 0, none⟩ = some x0 ∧ w.cell? ⟨b, 1, none⟩ = some x1 ∧ w.cell? ⟨b, 2, none⟩ = some x2 := ⟨cells_of h 0 _ rfl, cells_of h 1 _ rfl, cells_of h 2 _ rfl⟩
theorem ends_cases {pb : Nat} {op : Int} {w w' : World} {r : R Ex} {e : Ending} (h : Ends pb op w (ExRet w) r e w') :
    (∃ d, r = .error d ∧ e = .panicked (dgChain d) ∧ At pb w w') ∨
    (∃ b l kb ab bb Ab nb cb, r = .ok (b, l) ∧ e = .returned (.agg #[.int .i64 kb, vs ab, vs bb, .slice Ab nb cb]) ∧ At pb w w' ∧ PS w' pb op l ∧ ExV w' (fun b => w.heap.size ≤ b) b (.agg #[.int .i64 kb, vs ab, vs bb, .slice Ab nb cb])) := by
  obtain ⟨hA, hR⟩ := h
  cases r with
  | error d => exact .inl ⟨d, rfl, hR, hA⟩
  | ok p =>
    obtain ⟨b, l⟩ := p
    obtain ⟨⟨v, he, hV⟩, hP⟩ := hR
    obtain ⟨kb, ab, bb, Ab, nb, cb, rfl⟩ := hV.form
    exact .inr ⟨b, l, kb, ab, bb, Ab, nb, cb, rfl, he, hA, hP, hV⟩
theorem set4_old {w : World} {b c : Nat} (h : c ≠ b) (y0 y1 y2 y3 : Value) :
    ((((w.setCell ⟨b, 0, none⟩ y0).setCell ⟨b, 1, none⟩ y1).setCell ⟨b, 2, none⟩ y2).setCell ⟨b, 3, none⟩ y3).heap[c]? = w.heap[c]? := by
  rw [heap_setCell_other _ _ _ _ h, heap_setCell_other _ _ _ _ h, heap_setCell_other _ _ _ _ h, heap_setCell_other _ _ _ _ h]
theorem chain_next {w w3 w5 : World} {pb be tb : Nat} {op : Int} {l2 : List Tk} {e b : Ex} {x0 x1 x2 x3 y0 y1 y2 y3 : Value} {T : Obj} {Z : Obj} (k : Int) (hpb : pb < w.heap.size) (hbe : w.heap.size < be) (htb : w.heap.size < tb) (hne : tb ≠ be)
    (hA3 : At pb w w3) (hA5 : At pb w3.drew w5) (hbe3 : be < w3.heap.size) (hV3 : ExV w3 (fun b => w.heap.size < b ∧ b ≠ be) e (.agg #[x0, x1, x2, x3])) (hP5 : PS w5 pb op l2)
    (hV5 : ExV w5 (fun b => w3.drew.heap.size ≤ b) b (.agg #[y0, y1, y2, y3])) (h5 : w5.heap[be]? = some (.cells #[x0, x1, x2, x3] 38 (0, 0))) (h6 : w5.heap[tb]? = some T) (h7 : w5.heap[w.heap.size]? = some Z) :
    ∃ W : World, W = (((((w5.setCell ⟨be, 0, none⟩ (.int .i64 k)).setCell ⟨be, 1, none⟩ (.string ⟨#[]⟩)).setCell ⟨be, 2, none⟩ (.string ⟨#[]⟩)).setCell ⟨be, 3, none⟩ (.slice (some ⟨w5.heap.size, 0, none⟩) 2 2)).alloc
        (.cells #[x0, x1, x2, x3, y0, y1, y2, y3] 38)) ∧ At pb w W ∧ PS W pb op l2 ∧
      W.heap[be]? = some (.cells #[.int .i64 k, vs [], vs [], .slice (some ⟨w5.heap.size, 0, none⟩) 2 2] 38 (0, 0)) ∧
      ExV W (fun b => w.heap.size < b ∧ b ≠ be) (two k e b) (.agg #[.int .i64 k, vs [], vs [], .slice (some ⟨w5.heap.size, 0, none⟩) 2 2]) ∧ W.heap[tb]? = some T ∧ W.heap[w.heap.size]? = some Z := by
  refine ⟨_, rfl, ?_⟩
  have hbl := lt_of_heap h5
  have hsz : ((((w5.setCell ⟨be, 0, none⟩ (.int .i64 k)).setCell ⟨be, 1, none⟩ (.string ⟨#[]⟩)).setCell ⟨be, 2, none⟩ (.string ⟨#[]⟩)).setCell ⟨be, 3, none⟩ (.slice (some ⟨w5.heap.size, 0, none⟩) 2 2)).heap.size = w5.heap.size := by simp
  have h4 := set4 h5 (.int .i64 k) (.string ⟨#[]⟩) (.string ⟨#[]⟩) (.slice (some ⟨w5.heap.size, 0, none⟩) 2 2)
  have hold : ∀ c, c ≠ be → ((((w5.setCell ⟨be, 0, none⟩ (.int .i64 k)).setCell ⟨be, 1, none⟩ (.string ⟨#[]⟩)).setCell ⟨be, 2, none⟩ (.string ⟨#[]⟩)).setCell ⟨be, 3, none⟩ (.slice (some ⟨w5.heap.size, 0, none⟩) 2 2)).heap[c]? = w5.heap[c]? :=
    fun c hc => set4_old hc _ _ _ _
  have hA : At pb w ((((w5.setCell ⟨be, 0, none⟩ (.int .i64 k)).setCell ⟨be, 1, none⟩ (.string ⟨#[]⟩)).setCell ⟨be, 2, none⟩ (.string ⟨#[]⟩)).setCell ⟨be, 3, none⟩ (.slice (some ⟨w5.heap.size, 0, none⟩) 2 2)) :=
    (((((hA3.drew.trans hA5).set_new (Nat.le_of_lt hbe) 0 _).set_new (Nat.le_of_lt hbe) 1 _).set_new (Nat.le_of_lt hbe) 2 _).set_new (Nat.le_of_lt hbe) 3 _)
  have hx : ExV ((((w5.setCell ⟨be, 0, none⟩ (.int .i64 k)).setCell ⟨be, 1, none⟩ (.string ⟨#[]⟩)).setCell ⟨be, 2, none⟩ (.string ⟨#[]⟩)).setCell ⟨be, 3, none⟩ (.slice (some ⟨w5.heap.size, 0, none⟩) 2 2)) (fun b => w.heap.size < b ∧ b ≠ be) e (.agg #[x0, x1, x2, x3]) := by
    have h0 : ExV w5 (fun b => w.heap.size < b ∧ b ≠ be) e (.agg #[x0, x1, x2, x3]) := (ExV.keep (w := w3) (w' := w3.drew) (F' := fun b => w.heap.size < b ∧ b ≠ be) (fun _ h _ => h) (fun a v _ h => h) _ _ hV3).at hA5 (fun c hc _ => ⟨by omega, hc⟩)
    have hn : ∀ c, (w.heap.size < c ∧ c ≠ be) → c ≠ be := fun c hc => hc.2
    exact (((h0.set hn 0 _).set hn 1 _).set hn 2 _).set hn 3 _
  have hy : ExV ((((w5.setCell ⟨be, 0, none⟩ (.int .i64 k)).setCell ⟨be, 1, none⟩ (.string ⟨#[]⟩)).setCell ⟨be, 2, none⟩ (.string ⟨#[]⟩)).setCell ⟨be, 3, none⟩ (.slice (some ⟨w5.heap.size, 0, none⟩) 2 2)) (fun b => w.heap.size < b ∧ b ≠ be) b (.agg #[y0, y1, y2, y3]) := by
    have hd : w3.drew.heap.size = w3.heap.size := rfl
    have hw := hA3.size
    have h0 : ExV w5 (fun b => w.heap.size < b ∧ b ≠ be) b (.agg #[y0, y1, y2, y3]) := hV5.mono (fun c hc _ => by omega)
    have hn : ∀ c, (w.heap.size < c ∧ c ≠ be) → c ≠ be := fun c hc => hc.2
    exact (((h0.set hn 0 _).set hn 1 _).set hn 2 _).set hn 3 _
  generalize ((((w5.setCell ⟨be, 0, none⟩ (.int .i64 k)).setCell ⟨be, 1, none⟩ (.string ⟨#[]⟩)).setCell ⟨be, 2, none⟩ (.string ⟨#[]⟩)).setCell ⟨be, 3, none⟩ (.slice (some ⟨w5.heap.size, 0, none⟩) 2 2)) = V at *
  have hbl : be < V.heap.size := by omega
  refine ⟨hA.alloc_new _, ?_, ?_, ?_, ?_, ?_⟩
  · have h1 := hP5.lt
    refine (hP5.kept (hold pb (by omega))).kept (alloc_old _ (by omega))
  · rw [alloc_old _ hbl]; exact h4
  · exact two_V (hx.alloc _) (hy.alloc _) ⟨by omega, by omega⟩ (by rw [← hsz]; exact heap_alloc_new V _)
  · have h1 := lt_of_heap h6
    rw [alloc_old _ (by omega), hold tb hne]; exact h6
  · have h1 := lt_of_heap h7
    rw [alloc_old _ (by omega), hold _ (by omega)]; exact h7
/-- between two rounds of the chain. -/
def CI (pb : Nat) (op : Int) (S : Bs) (K : Bs → Int) (one : P Ex) (w : World) (be : Nat) (tot : R Ex) (k : Nat) (wr : World) : Prop :=
  ∃ (L' : List Tk) (e : Ex) (kk : Int) (aa bb : Bs) (AA : Option Addr) (nn cc : Nat), L'.length ≤ k ∧ PS wr pb op L' ∧ wr.heap[be]? = some (.cells #[.int .i64 kk, vs aa, vs bb, .slice AA nn cc] 38 (0, 0)) ∧
    ExV wr (fun b => w.heap.size < b ∧ b ≠ be) e (.agg #[.int .i64 kk, vs aa, vs bb, .slice AA nn cc]) ∧ At pb w wr ∧
    wr.heap[w.heap.size]? = some (.cells #[.int .i64 0, .string ⟨#[]⟩, .string ⟨#[]⟩, .slice none 0 0] 38 (0, 0)) ∧ tot = chainGo S K one L'.length e L' ∧ e.height ≤ 12
set_option maxRecDepth 100000 in
set_option maxHeartbeats 2000000 in
theorem chain_calls {pb : Nat} {op : Int} (S : Bs) (hS1 : 0 < S.length) (hS2 : S.length ≤ 2) (hSq : S.length = 2 → S = [43, 45]) (h63 : S.any (fun c => [63] == [c]) = false) (K : Bs → Int) (fk fo : Nat) (one : P Ex) (hless : Less one) (hlow : Low one)
    (efk : ∀ args w, Sem.run Tryd.prog (callFunc fk args) w = .ok (.enter fk args) w) (efo : ∀ args w, Sem.run Tryd.prog (callFunc fo args) w = .ok (.enter fo args) w)
    (hk : ∀ q w, Calls Tryd.prog fk #[vs q] w (fun e w' => e = .returned (.int .i64 (K q)) ∧ w' = w))
    (hone : ∀ w L, PS w pb op L → Calls Tryd.prog fo #[.pointer (some ⟨pb, 0, none⟩)] w (Ends pb op w (ExRet w) (one L))) {w : World} {L : List Tk} (h : PS w pb op L) :
    Calls Tryd.prog 84 #[.pointer (some ⟨pb, 0, none⟩), vs S, .func (.func fk) #[] #[], .func (.func fo) #[.pointer (some ⟨pb, 0, none⟩)] #[]] w
      (Ends pb op w (ExRet w) (chainS S K one L)) := by
  have HK := Lib.hid hk
  have HO := Lib.hid hone
  have HP := Lib.hid h
  clear hk hone h
  go_enter Tryd.func84, Tryd.ntmps84
  go_wp2_with fail
  refine (HO.out _ L (HP.out.kept (alloc_old _ HP.out.lt))).mono ?_
  rintro e w1 ⟨hA1, hR⟩
  have hA1' := (At.alloc_new (At.refl pb w) _).trans hA1
  cases hr : one L with
  | error d =>
    rw [hr] at hR
    dsimp only at hR
    subst hR
    refine ⟨rfl, hA1', ?_⟩
    rw [chainS_err hr]
  | ok p =>
    obtain ⟨a, L1⟩ := p
    rw [hr] at hR
    obtain ⟨⟨v, rfl, hV⟩, hP1⟩ := hR
    obtain ⟨kk, aa, bb, AA, nn, cc, rfl⟩ := hV.form
    have hrb : w1.heap[w.heap.size]? = some (.cells #[.int .i64 0, .string ⟨#[]⟩, .string ⟨#[]⟩, .slice none 0 0] 38 (0, 0)) := by
      rw [hA1.keep (by simp) (Nat.ne_of_gt HP.out.lt)]
      exact heap_alloc_new w _
    have hsz : w.heap.size + 1 ≤ w1.heap.size := by have := hA1.size; simpa using this
    have HTOT := Lib.hid (chainS_ok (S := S) (K := K) hr)
    have hci : CI pb op S K one w w1.heap.size (chainGo S K one L1.length a L1) L1.length (w1.alloc (.cells #[.int .i64 kk, vs aa, vs bb, .slice AA nn cc] 38)) := by
      refine ⟨L1, a, kk, aa, bb, AA, nn, cc, Nat.le_refl _, hP1.kept (alloc_old _ hP1.lt), heap_alloc_new w1 _, ?_, hA1'.alloc_new _, ?_, rfl, hlow _ _ _ hr⟩
      · refine (hV.mono (fun b hb hl => ⟨?_, ?_⟩)).alloc _
        · simp at hb; omega
        · omega
      · rw [alloc_old _ (by omega)]; exact hrb
    have HCI := Lib.hid hci
    have HW := Lib.hid hsz
    clear hV hP1 hrb hsz hci hA1 hA1' hr
    generalize chainGo S K one L1.length a L1 = tot at *
    go_wp2_with fail
    go_loopg [] L1.length (fun k wr => CI pb op S K one w w1.heap.size tot k wr)
    case atStart => exact HCI.out
    case round =>
      clear HCI
      obtain ⟨L', e, kk, aa, bb, AA, nn, cc, hkl, hPS, hbe, hV, hA, hrb, htot, hlow'⟩ := hrel
      generalize w1.heap.size = be at *
      obtain ⟨r, line, col, t, l', rfl, hB, hr, hl, hn, htm, -, -, hpm⟩ := hPS.split
      have g3 := cells_of hB 3 (vs (shown t.s)) rfl
      have g4 := cells_of hB 4 (.int .i64 t.line) rfl
      have g5 := cells_of hB 5 (.int .i64 t.col) rfl
      have b0 := cells_of hbe 0 (.int .i64 kk) rfl
      have b1 := cells_of hbe 1 (vs aa) rfl
      have b2 := cells_of hbe 2 (vs bb) rfl
      have b3 := cells_of hbe 3 (.slice AA nn cc) rfl
      have HPS := Lib.hid hPS
      have HV := Lib.hid hV
      have HA := Lib.hid hA
      have HBE := Lib.hid hbe
      have HRB := Lib.hid hrb
      have HT := Lib.hid htot
      have HB := Lib.hid hB
      have HR := Lib.hid hr
      have HN := Lib.hid hn
      have HL := Lib.hid hl
      have HPM := Lib.hid hpm
      have r0 := cells_of hrb 0 (.int .i64 0) rfl
      have r1 := cells_of hrb 1 (.string ⟨#[]⟩) rfl
      have r2 := cells_of hrb 2 (.string ⟨#[]⟩) rfl
      have r3 := cells_of hrb 3 (.slice none 0 0) rfl
      have q0 := frz_of hrb 0
      have q1 := frz_of hrb 1
      have q2 := frz_of hrb 2
      have q3 := frz_of hrb 3
      clear hPS hV hA hbe hrb htot hB hr hn hl hpm
      have hexit : (S.any (fun c => t.s == [c])) = false → ∀ wX : World, wX = ((((wr.setCell ⟨w.heap.size, 0, none⟩ (.int .i64 kk)).setCell ⟨w.heap.size, 1, none⟩ (vs aa)).setCell ⟨w.heap.size, 2, none⟩ (vs bb)).setCell ⟨w.heap.size, 3, none⟩ (.slice AA nn cc)) →
          Ends pb op w (ExRet w) (chainS S K one L) (.returned (.agg #[.int .i64 kk, vs aa, vs bb, .slice AA nn cc])) wX := by
        intro hf wX hX
        subst hX
        have hgo : chainGo S K one (t :: l').length e (t :: l') = .ok (e, t :: l') := by
          unfold chainGo
          rw [if_neg (by rw [hf]; simp)]
        rw [HTOT.out, HT.out, hgo]
        refine ⟨(((HA.out.set_new (Nat.le_refl _) 0 _).set_new (Nat.le_refl _) 1 _).set_new (Nat.le_refl _) 2 _).set_new (Nat.le_refl _) 3 _, ⟨_, rfl, ?_⟩, ?_⟩
        · have hne : ∀ b, (w.heap.size < b ∧ b ≠ be) → b ≠ w.heap.size := fun b hb => by omega
          exact ((((HV.out.set hne 0 _).set hne 1 _).set hne 2 _).set hne 3 _).mono (fun b hb _ => by omega)
        · refine HPS.out.kept ?_
          have hne : pb ≠ w.heap.size := Nat.ne_of_lt HP.out.lt
          rw [heap_setCell_other _ _ _ _ hne, heap_setCell_other _ _ _ _ hne, heap_setCell_other _ _ _ _ hne, heap_setCell_other _ _ _ _ hne]
      have HX := Lib.hid hexit
      clear hexit
      cases hend : S.any (fun c => t.s == [c]) with
      | false =>
        have HXE := Lib.hid (HX.out hend)
        clear HX
        by_cases hsh : shown t.s = []
        · rw [hsh] at g3
          clear hend
          go_wp2
          refine bodyPost_ret (results_cell_row rfl _ _ w.heap.size 38 #[.int .i64 kk, vs aa, vs bb, .slice AA nn cc] (0, 0) _ rfl (set4 HRB.out _ _ _ _) Tryd.underlying38 rfl (by kernel_rfl)) rfl ?_
          exact HXE.out _ rfl
        · have hq : t.s ≠ [] := fun e0 => hsh (by rw [e0]; rfl)
          have hq3 : shown t.s = t.s := by
            unfold shown at hsh ⊢
            split
            · rename_i h0; rw [if_pos h0] at hsh; exact absurd rfl hsh
            · rfl
          rw [hq3] at g3
          have hne0 : (t.s == []) = false := by
            cases hb : t.s == []
            · rfl
            · exact absurd (eq_of_beq hb) hq
          have HC := Lib.hid (fun W => contains_calls S _ rfl t.s hS1 hS2 hq (fun h2 e0 => by rw [e0] at h2; exact HPM.out (e0.trans (hSq h2))) (by have := HL.out; omega) W)
          have HEND := Lib.hid hend
          clear hsh hq hq3 hend
          go_wp2_with fail
          refine (HC.out wr).mono ?_
          rintro e1 w2 ⟨rfl, rfl⟩
          rw [HEND.out]
          go_wp2
          refine bodyPost_ret (results_cell_row rfl _ _ w.heap.size 38 #[.int .i64 kk, vs aa, vs bb, .slice AA nn cc] (0, 0) _ rfl (set4 HRB.out _ _ _ _) Tryd.underlying38 rfl (by kernel_rfl)) rfl ?_
          exact HXE.out _ rfl
      | true =>
        have hq : t.s ≠ [] := fun e0 => by rw [e0] at hend; simp at hend
        have hq6 : t.s ≠ [63] := fun e0 => by rw [e0, h63] at hend; cases hend
        have hq3 : shown t.s = t.s := by
          unfold shown
          rw [if_neg]
          intro e0
          exact hq6 (eq_of_beq e0)
        rw [hq3] at g3
        have hne0 : (t.s == []) = false := by
          cases hb : t.s == []
          · rfl
          · exact absurd (eq_of_beq hb) hq
        have HC := Lib.hid (fun W => contains_calls S _ rfl t.s hS1 hS2 hq (fun h2 e0 => by rw [e0] at h2; exact HPM.out (e0.trans (hSq h2))) (by have := HL.out; omega) W)
        have HEND := Lib.hid hend
        have HNX := Lib.hid (HN.out hq hq6)
        clear hq hq3 hend hq6 HX
        go_wp2_with fail
        refine (HC.out wr).mono ?_
        rintro e1 w2 ⟨rfl, rfl⟩
        rw [HEND.out]
        go_wp2_with fail
        refine (step_calls (HB.out.kept (alloc_old _ HB.out.lt)) HR.out).mono ?_
        rintro e1 w3 ⟨rfl, hP3, hA3⟩
        rw [← HNX.out] at hP3
        have htb := heap_alloc_new w2 (.cells #[vs t.s, .int .i64 t.line, .int .i64 t.col] 52)
        have htb3 := (hA3.keep (by simp) (Nat.ne_of_gt HB.out.lt)).trans htb
        have hbe3 := (hA3.keep (b := be) (by have := lt_of_heap HBE.out; simp; omega) (by have := HW.out; have := HP.out.lt; omega)).trans ((alloc_old _ (lt_of_heap HBE.out)).trans HBE.out)
        have hA03 := (HA.out.alloc_new _).trans hA3
        have hV3 := (HV.out.alloc _).at hA3 (F' := fun b => w.heap.size < b ∧ b ≠ be) (fun b hb _ => ⟨by have := HP.out.lt; omega, hb⟩)
        have hrb3 := (hA3.keep (b := w.heap.size) (by have := lt_of_heap HRB.out; simp; omega) (Nat.ne_of_gt HP.out.lt)).trans ((alloc_old _ (lt_of_heap HRB.out)).trans HRB.out)
        have t0 := cells_of htb3 0 (vs t.s) rfl
        have d0 := cells_of hbe3 0 (.int .i64 kk) rfl
        have d1 := cells_of hbe3 1 (vs aa) rfl
        have d2 := cells_of hbe3 2 (vs bb) rfl
        have d3 := cells_of hbe3 3 (.slice AA nn cc) rfl
        have HP3 := Lib.hid hP3
        have HBE3 := Lib.hid hbe3
        have HRB3 := Lib.hid hrb3
        have HTB3 := Lib.hid htb3
        have HA3 := Lib.hid hA03
        have HV3 := Lib.hid hV3
        have HWR : w.heap.size ≤ w2.heap.size := HA.out.size
        have HBL := lt_of_heap HBE.out
        clear hP3 hbe3 hrb3 htb3 hA3 hA03 hV3 htb HPS HV HA HBE HRB HB HR HN HL HPM HC b0 b1 b2 b3 r0 r1 r2 r3 q0 q1 q2 q3 g3 g4 g5
        have HTBP := Lib.hid (Nat.lt_of_lt_of_le HP.out.lt HWR)
        have HTW := Lib.hid (Nat.lt_of_lt_of_le HW.out (Nat.le_of_lt HBL))
        have HTN := Lib.hid (Nat.ne_of_gt HBL)
        clear HWR HBL
        generalize w2.heap.size = tb at *
        go_wp2_with fail
        have herr : ∀ d w5, one l' = .error d → At pb w3.drew w5 → Ends pb op w (ExRet w) (chainS S K one L) (.panicked (dgChain d)) w5 := fun d w5 ho h5 => by
          rw [HTOT.out, HT.out, chainGo_err HEND.out ho]
          exact ⟨HA3.out.drew.trans h5, rfl⟩
        have hkeep : ∀ w5, At pb w3.drew w5 → w5.heap[be]? = some (.cells #[.int .i64 kk, vs aa, vs bb, .slice AA nn cc] 38 (0, 0)) ∧ w5.heap[tb]? = some (.cells #[vs t.s, .int .i64 t.line, .int .i64 t.col] 52 (0, 0)) ∧
            w5.heap[w.heap.size]? = some (.cells #[.int .i64 0, .string ⟨#[]⟩, .string ⟨#[]⟩, .slice none 0 0] 38 (0, 0)) := fun w5 hA5 =>
          ⟨(hA5.keep (b := be) (lt_of_heap HBE3.out) (by have := HW.out; have := HP.out.lt; omega)).trans HBE3.out, (hA5.keep (b := tb) (lt_of_heap HTB3.out) (Nat.ne_of_gt HTBP.out)).trans HTB3.out,
            (hA5.keep (b := w.heap.size) (lt_of_heap HRB3.out) (Nat.ne_of_gt HP.out.lt)).trans HRB3.out⟩
        have HERR := Lib.hid herr
        have HKEEP := Lib.hid hkeep
        clear herr hkeep
        go_region_with (first
          | (refine (HK.out _ _).mono ?_; rintro e5 w5 ⟨rfl, rfl⟩)
          | (refine (HO.out w3.drew l' (HP3.out.kept (w' := w3.drew) rfl)).mono ?_; intro e5 w5 h5; rcases ends_cases h5 with ⟨d, ho, rfl, hA5⟩ | ⟨b, l2, kb, ab, bb', Ab, nb, cb, ho, rfl, hA5, hP5, hV5⟩
             · exact ⟨rfl, HERR.out d _ ho hA5⟩
             obtain ⟨hbe5, htb5, hrb5⟩ := HKEEP.out _ hA5
             obtain ⟨k0, k1, k2, k3, j0, j1, j2, j3⟩ := four_of hbe5
             obtain ⟨t0', t1', t2'⟩ := three_of htb5
             have hbl := lt_of_heap hbe5
             have htl := lt_of_heap htb5
             have H5 := Lib.hid (And.intro h5 (And.intro ho (And.intro hA5 (And.intro hP5 (And.intro hV5 (And.intro hbe5 (And.intro htb5 hrb5)))))))
             clear h5 ho hA5 hP5 hV5 hbe5 htb5 hrb5))
        all_goals
          obtain ⟨h5, ho, hA5, hP5, hV5, hbe5, htb5, hrb5⟩ := H5.out
          obtain ⟨W, hW, hAW, hPW, hbeW, hVW, htbW, hrbW⟩ := chain_next (K t.s) HP.out.lt (by have := HW.out; omega) HTW.out HTN.out HA3.out hA5 (lt_of_heap HBE3.out) HV3.out hP5 hV5 hbe5 htb5 hrb5
          rw [← hW]
          have HOE := Lib.hid ho
          generalize w5.heap.size = g5 at *
          clear H5 h5 ho hA5 hP5 hV5 hbe5 htb5 hrb5 k0 k1 k2 k3 j0 j1 j2 j3 t0' t1' t2' hbl htl hW t0 d0 d1 d2 d3
          obtain ⟨k0, k1, k2, k3, j0, j1, j2, j3⟩ := four_of hbeW
          obtain ⟨t0', t1', t2'⟩ := three_of htbW
          have HAW := Lib.hid hAW
          have HPW := Lib.hid hPW
          have HBEW := Lib.hid hbeW
          have HVW := Lib.hid hVW
          have HTBW := Lib.hid htbW
          have HRBW := Lib.hid hrbW
          clear hAW hPW hbeW hVW htbW hrbW
          have hh13 : (two (K t.s) e b).height ≤ 13 := by
            have h1 := hlow _ _ _ HOE.out
            rw [two_height]; omega
          have hh1 := (two (K t.s) e b).height_pos
          obtain ⟨q, hq⟩ : ∃ q, (two (K t.s) e b).height = q := ⟨_, rfl⟩
          rw [hq] at hh13 hh1
          have HQ := Lib.hid hq
          clear hq
          go_wp2_with fail
          refine (Height_calls _ _ _ W HVW.out (by rw [HQ.out]; omega)).mono ?_
          rintro e7 w7 ⟨rfl, hb7⟩
          rw [HQ.out]
          have HB7 := Lib.hid hb7
          obtain ⟨k0, k1, k2, k3, j0, j1, j2, j3⟩ := four_of ((hb7.block _ (lt_of_heap HBEW.out)).trans HBEW.out)
          obtain ⟨t0', t1', t2'⟩ := three_of ((hb7.block _ (lt_of_heap HTBW.out)).trans HTBW.out)
          clear hb7
          by_cases h12 : 12 < q
          · go_wp2_with fail
            refine (fails_calls (vs t.s) ⟨t.line, t.col, 9⟩ w7 ⟨_, rfl⟩).mono ?_
            rintro e8 w8 ⟨rfl, hb8⟩
            refine ⟨rfl, ?_⟩
            rw [HTOT.out, HT.out, chainGo_deep HEND.out HOE.out (by rw [HQ.out]; exact h12)]
            exact ⟨(HAW.out.below HB7.out).below hb8, rfl⟩
          · have h12' : q ≤ 12 := by omega
            go_wp2
            have hl2 : l2.length ≤ l'.length := hless _ _ _ HOE.out
            go_roundg l2.length
            case measure =>
              have : (t :: l').length = l'.length + 1 := rfl
              omega
            case rel =>
              refine ⟨l2, two (K t.s) e b, _, _, _, _, _, _, Nat.le_refl _, HPW.out.kept (HB7.out.block _ HPW.out.lt), (HB7.out.block _ (lt_of_heap HBEW.out)).trans HBEW.out, HVW.out.below HB7.out, HAW.out.below HB7.out,
                (HB7.out.block _ (lt_of_heap HRBW.out)).trans HRBW.out, ?_, by rw [HQ.out]; omega⟩
              rw [HT.out, chainGo_on hless HEND.out HOE.out (by rw [HQ.out]; omega)]
end Go.Proofs.YtgmlcnikphbiiaaDoor.L

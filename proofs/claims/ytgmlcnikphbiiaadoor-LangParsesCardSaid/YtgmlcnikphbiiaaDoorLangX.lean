/-
  The document's reader: its block, next, is, fail, must, name.
-/
import Derived.Test.YtgmlcnikphbiiaaDoorLangU
namespace Go.Proofs.YtgmlcnikphbiiaaDoor.L
open Go.RowKit Go.Proofs.YtgmlcnikphbiiaaDoor.B Go.Proofs.YtgmlcnikphbiiaaDoor.S10 Go.Proofs.YtgmlcnikphbiiaaDoor.Nm
open Go.Proofs.YtgmlcnikphbiiaaDoor.C (QRow Turn wpList_append_q)
set_option linter.unusedVariables false
set_option linter.unusedSimpArgs false

def TkR (x : Tk) (cs : List Value) : Prop := cs = [vs x.s, .int .i64 x.line, .int .i64 x.col]
abbrev rdCells (A : Option Addr) (n c : Nat) (at_ op dl dc de : Int) : Array Value := #[.slice A n c, .int .i64 at_, .int .i64 op, .int .i64 dl, .int .i64 dc, .int .i64 de]
/-- the reader's block. -/
def RD (w : World) (rb : Nat) (TL : List Tk) (at_ : Nat) (op : Int) (d : Dg) : Prop :=
  ∃ A c, w.heap[rb]? = some (.cells (rdCells A TL.length c at_ op d.line d.col d.e) 62 (0, 0)) ∧ SlV w (fun b => b < rb) 3 TkR TL A TL.length ∧ at_ < TL.length ∧ TL.length ≤ 5000 ∧ ∀ t ∈ TL, t.s.length ≤ 5000
theorem RD.kept {w w' : World} {rb : Nat} {TL : List Tk} {at_ : Nat} {op : Int} {d : Dg} (h : RD w rb TL at_ op d) (hA : At rb w w') (hb : w'.heap[rb]? = w.heap[rb]?) : RD w' rb TL at_ op d := by
  obtain ⟨A, c, h1, h2, h3⟩ := h
  exact ⟨A, c, hb.trans h1, h2.keep (by decide) (fun _ h _ => h) (turn_cell hA (fun b hb _ e => by omega)) (fun _ _ h => h), h3⟩
theorem RD.lt {w : World} {rb : Nat} {TL : List Tk} {at_ : Nat} {op : Int} {d : Dg} (h : RD w rb TL at_ op d) : rb < w.heap.size := by
  obtain ⟨A, c, h1, _⟩ := h
  exact lt_of_heap h1
theorem at_below {rb : Nat} {w w' : World} (hb : Below w.heap.size w w') : At rb w w' := Turn.of_below hb
theorem RD.below {w w' : World} {rb : Nat} {TL : List Tk} {at_ : Nat} {op : Int} {d : Dg} (h : RD w rb TL at_ op d) (hb : Below w.heap.size w w') : RD w' rb TL at_ op d := h.kept (at_below hb) (hb.block _ h.lt)
theorem RD.alloc {w : World} {rb : Nat} {TL : List Tk} {at_ : Nat} {op : Int} {d : Dg} (h : RD w rb TL at_ op d) (o : Obj) : RD (w.alloc o) rb TL at_ op d := h.below ((Below.refl _ w).alloc (Nat.le_refl _) o)
theorem tok_cells {w : World} {F : Nat → Prop} {xs : List Tk} {A : Option Addr} {n : Nat} (h : SlV w F 3 TkR xs A n) {j : Nat} {t : Tk} (hj : xs[j]? = some t) :
    ∃ ad b, A = some ad ∧ ad.add (j * 3) = b ∧ F b.block ∧ w.cell? b = some (vs t.s) ∧ w.cell? ⟨b.block, b.off + 1, none⟩ = some (.int .i64 t.line) ∧ w.cell? ⟨b.block, b.off + 2, none⟩ = some (.int .i64 t.col) := by
  obtain ⟨ad, b, cs, h1, h2, h3, -, h5, h6⟩ := h.2.2 j t hj
  rw [h6] at h5
  have c0 := h5 0 _ rfl
  have c1 := h5 1 _ rfl
  have c2 := h5 2 _ rfl
  rw [add_zero] at c0
  rw [Addr.add_succ'] at c1 c2
  exact ⟨ad, b, h1, h2, h3, c0, c1, c2⟩
abbrev tkAgg (t : Tk) : Value := .agg #[vs t.s, .int .i64 t.line, .int .i64 t.col]
set_option maxRecDepth 100000 in
set_option maxHeartbeats 1000000 in
theorem next_calls {w : World} {rb : Nat} {TL : List Tk} {at_ : Nat} {op : Int} {d : Dg} (h : RD w rb TL at_ op d) {t : Tk} (ht : TL[at_]? = some t) :
    Calls Tryd.prog 29 #[.pointer (some ⟨rb, 0, none⟩)] w fun e w' => e = .returned (tkAgg t) ∧ Below w.heap.size w w' := by
  have hrl := h.lt
  obtain ⟨A, c, hg, hs, hat, hle, -⟩ := h
  obtain ⟨ad, b, rfl, hab, hbl, c0, c1, c2⟩ := tok_cells hs ht
  obtain ⟨g0, g1, -⟩ := six_of hg
  have hbs : b.block < w.heap.size := by omega
  have hal : at_ < TL.length := hat
  generalize TL.length = n at *
  have hnew := heap_alloc_new w (.cells #[.string ⟨#[]⟩, .int .i64 0, .int .i64 0] 67)
  have hB : Below w.heap.size w (w.alloc (.cells #[.string ⟨#[]⟩, .int .i64 0, .int .i64 0] 67)) := (Below.refl _ w).alloc (Nat.le_refl _) _
  have hfin : ∀ W : World, W = (w.alloc (.cells #[vs t.s, .int .i64 t.line, .int .i64 t.col] 67)) → W.heap[w.heap.size]? = some (.cells #[vs t.s, .int .i64 t.line, .int .i64 t.col] 67 (0, 0)) ∧ Below w.heap.size w W := fun W hW => by
    subst hW
    exact ⟨heap_alloc_new _ _, (Below.refl _ w).alloc (Nat.le_refl _) _⟩
  have HF := Lib.hid hfin
  clear hg hs ht hfin hnew hB
  go_enter Tryd.func29, Tryd.ntmps29
  go_wp2_with fail
  go_region_with (fail)
  all_goals
    obtain ⟨hg, hB⟩ := HF.out _ rfl
    go_wp2
    refine bodyPost_ret (results_cell_row rfl _ _ w.heap.size 67 #[vs t.s, .int .i64 t.line, .int .i64 t.col] (0, 0) _ rfl hg Tryd.underlying67 rfl (by kernel_rfl)) rfl ?_
    exact ⟨rfl, below_drewN hB 1⟩
def FinL : List Tk → Prop
  | [] => False
  | [t] => t.s = [] ∨ t.s = [63]
  | t :: u :: l => t.s ≠ [] ∧ t.s ≠ [63] ∧ FinL (u :: l)
theorem FinL.next {t : Tk} {l : List Tk} (h : FinL (t :: l)) (h0 : t.s ≠ []) (h1 : t.s ≠ [63]) : FinL l := by
  cases l with
  | nil => rcases h with h | h
           · exact absurd h h0
           · exact absurd h h1
  | cons u l => exact h.2.2
/-- the reader stands at these tokens, and nothing is wrong. -/
def RO (w : World) (rb : Nat) (op : Int) (L : List Tk) : Prop := ∃ TL at_, RD w rb TL at_ op ⟨0, 0, 0⟩ ∧ TL.drop at_ = L ∧ FinL L
/-- something is wrong. -/
def RE (w : World) (rb : Nat) (op : Int) (d : Dg) : Prop := d.e ≠ 0 ∧ ∃ TL at_ op', RD w rb TL at_ op' d ∧ op ≤ op' ∧ op' ≤ op + 1
theorem RO.kept {w w' : World} {rb : Nat} {op : Int} {L : List Tk} (h : RO w rb op L) (hA : At rb w w') (hb : w'.heap[rb]? = w.heap[rb]?) : RO w' rb op L := by
  obtain ⟨TL, at_, h1, h2⟩ := h
  exact ⟨TL, at_, h1.kept hA hb, h2⟩
theorem RE.kept {w w' : World} {rb : Nat} {op : Int} {d : Dg} (h : RE w rb op d) (hA : At rb w w') (hb : w'.heap[rb]? = w.heap[rb]?) : RE w' rb op d := by
  obtain ⟨h0, TL, at_, op', h1, h2⟩ := h
  exact ⟨h0, TL, at_, op', h1.kept hA hb, h2⟩
theorem RO.lt {w : World} {rb : Nat} {op : Int} {L : List Tk} (h : RO w rb op L) : rb < w.heap.size := by obtain ⟨_, _, h1, _⟩ := h; exact h1.lt
theorem RE.lt {w : World} {rb : Nat} {op : Int} {d : Dg} (h : RE w rb op d) : rb < w.heap.size := by obtain ⟨_, _, _, _, h1, _⟩ := h; exact h1.lt
theorem RO.below {w w' : World} {rb : Nat} {op : Int} {L : List Tk} (h : RO w rb op L) (hb : Below w.heap.size w w') : RO w' rb op L := h.kept (at_below hb) (hb.block _ h.lt)
theorem RE.below {w w' : World} {rb : Nat} {op : Int} {d : Dg} (h : RE w rb op d) (hb : Below w.heap.size w w') : RE w' rb op d := h.kept (at_below hb) (hb.block _ h.lt)
theorem RO.open_ {w : World} {rb : Nat} {op : Int} {L : List Tk} (h : RO w rb op L) : ∃ TL at_ t l, RD w rb TL at_ op ⟨0, 0, 0⟩ ∧ L = t :: l ∧ TL[at_]? = some t ∧ TL.drop (at_ + 1) = l ∧ FinL (t :: l) := by
  obtain ⟨TL, at_, h1, h2, h3⟩ := h
  have hlt : at_ < TL.length := by obtain ⟨_, _, _, _, h, _⟩ := h1; exact h
  rw [List.drop_eq_getElem_cons hlt] at h2
  exact ⟨TL, at_, TL[at_], TL.drop (at_ + 1), h1, h2.symm, List.getElem?_eq_getElem hlt, rfl, by rw [h2]; exact h3⟩
theorem RD.step {w : World} {rb : Nat} {TL : List Tk} {at_ : Nat} {op : Int} {d : Dg} (h : RD w rb TL at_ op d) (h1 : at_ + 1 < TL.length) : RD (w.setCell ⟨rb, 1, none⟩ (.int .i64 (at_ + 1 : Nat))) rb TL (at_ + 1) op d := by
  obtain ⟨A, c, g, hs, h2, h3⟩ := h
  exact ⟨A, c, heap_setCell_same w rb 1 _ _ _ g, hs.keep (by decide) (fun _ h _ => h) (turn_cell (at_set w rb 1 _) (fun b hb _ e => by omega)) (fun _ _ h => h), h1, h3⟩
theorem RO.step {w : World} {rb : Nat} {TL : List Tk} {at_ : Nat} {op : Int} {t : Tk} {l : List Tk} (h : RD w rb TL at_ op ⟨0, 0, 0⟩) (hd : TL.drop (at_ + 1) = l) (hf : FinL l) : RO (w.setCell ⟨rb, 1, none⟩ (.int .i64 (at_ + 1 : Nat))) rb op l := by
  have hl : at_ + 1 < TL.length := by
    cases l with
    | nil => exact hf.elim
    | cons u l =>
      have := congrArg List.length hd
      simp at this
      omega
  exact ⟨TL, at_ + 1, h.step hl, hd, hf⟩
set_option maxRecDepth 100000 in
set_option maxHeartbeats 1000000 in
theorem is_calls {w : World} {rb : Nat} {op : Int} {L : List Tk} (h : RO w rb op L) (s : ByteArray) (q : Bs) (hs : s = ⟨q.toArray⟩) (h0 : q ≠ []) (h1 : q ≠ [63]) :
    Calls Tryd.prog 26 #[.pointer (some ⟨rb, 0, none⟩), .string s] w
      fun e w' => e = .returned (.bool (hasS q L).1) ∧ RO w' rb op (hasS q L).2 ∧ At rb w w' := by
  subst hs
  have HRO := Lib.hid h
  obtain ⟨TL, at_, t, l, hd, rfl, ht, hdr, hf⟩ := h.open_
  have HD := Lib.hid hd
  obtain ⟨A, c, hg, hsl, hat, hle, -⟩ := hd
  obtain ⟨ad, b, rfl, hab, hbl, c0, c1, c2⟩ := tok_cells hsl ht
  obtain ⟨g0, g1, g2, g3, g4, g5, f0, f1, -⟩ := six_of hg
  have hrl := h.lt
  have HG := Lib.hid hg
  have HDR := Lib.hid hdr
  have HFI := Lib.hid hf
  generalize hn : TL.length = n at *
  have HN := Lib.hid hn
  clear hg h hsl ht hdr hf hn
  cases hb : t.s == q with
  | true =>
    have hq := eq_of_beq hb
    have hb' : (t.s != q) = false := by simp [bne, hb]
    have hfl := HFI.out.next (hq ▸ h0) (hq ▸ h1)
    have HH := Lib.hid (show hasS q (t :: l) = (true, l) by rw [hasS_cons, hb]; rfl)
    have HRS := Lib.hid (fun (W : World) (hW : RD W rb TL at_ op ⟨0, 0, 0⟩) => RO.step (t := t) hW HDR.out hfl)
    clear hq hfl h0 h1
    go_enter Tryd.func26, Tryd.ntmps26
    go_wp2_with fail
    go_quiet (fail)
    go_wp2
    go_ret
    rw [HH.out]
    refine ⟨rfl, ?_, ?_⟩
    · exact HRS.out _ (HD.out.below (below_drewN (Below.refl _ _) _))
    · exact At.trans (at_below (below_drewN (Below.refl _ _) _)) (at_set _ _ _ _)
  | false =>
    have hb' : (t.s != q) = true := by simp [bne, hb]
    have HH := Lib.hid (show hasS q (t :: l) = (false, t :: l) by rw [hasS_cons, hb]; rfl)
    clear h0 h1
    go_enter Tryd.func26, Tryd.ntmps26
    go_wp2_with fail
    go_quiet (fail)
    go_wp2
    go_ret
    rw [HH.out]
    exact ⟨rfl, HRO.out.below (below_drewN (Below.refl _ _) _), at_below (below_drewN (Below.refl _ _) _)⟩
set_option maxRecDepth 100000 in
set_option maxHeartbeats 1000000 in
theorem is_err {w : World} {rb : Nat} {op : Int} {d : Dg} (h : RE w rb op d) (s : ByteArray) :
    Calls Tryd.prog 26 #[.pointer (some ⟨rb, 0, none⟩), .string s] w fun e w' => e = .returned (.bool false) ∧ Below w.heap.size w w' := by
  obtain ⟨h0, TL, at_, op', hd, -⟩ := h
  obtain ⟨A, c, hg, -⟩ := hd
  obtain ⟨g0, g1, g2, g3, g4, g5, -⟩ := six_of hg
  have e1 : (d.e == 0) = false := by simpa using h0
  have e2 : (d.e != 0) = true := by simpa using h0
  clear hg h0
  go_enter Tryd.func26, Tryd.ntmps26
  go_wp2_with fail
  go_quiet (fail)
  go_wp2
  go_ret
  exact ⟨rfl, below_drewN (Below.refl _ _) _⟩
theorem RD.fail {w : World} {rb : Nat} {TL : List Tk} {at_ : Nat} {op : Int} {d : Dg} (h : RD w rb TL at_ op d) (d' : Dg) :
    RD (((w.setCell ⟨rb, 3, none⟩ (.int .i64 d'.line)).setCell ⟨rb, 4, none⟩ (.int .i64 d'.col)).setCell ⟨rb, 5, none⟩ (.int .i64 d'.e)) rb TL at_ op d' ∧ At rb w (((w.setCell ⟨rb, 3, none⟩ (.int .i64 d'.line)).setCell ⟨rb, 4, none⟩ (.int .i64 d'.col)).setCell ⟨rb, 5, none⟩ (.int .i64 d'.e)) := by
  obtain ⟨A, c, g, hs, h1, h2⟩ := h
  have hA : At rb w (((w.setCell ⟨rb, 3, none⟩ (.int .i64 d'.line)).setCell ⟨rb, 4, none⟩ (.int .i64 d'.col)).setCell ⟨rb, 5, none⟩ (.int .i64 d'.e)) := ((at_set w rb 3 _).trans (at_set _ rb 4 _)).trans (at_set _ rb 5 _)
  exact ⟨⟨A, c, heap_setCell_same _ rb 5 _ _ _ (heap_setCell_same _ rb 4 _ _ _ (heap_setCell_same w rb 3 _ _ _ g)), hs.keep (by decide) (fun _ h _ => h) (turn_cell hA (fun b hb _ e => by omega)) (fun _ _ h => h), h1, h2⟩, hA⟩
/-- the first fault. -/
theorem fail_at {w : World} {rb : Nat} {TL : List Tk} {at_ : Nat} {op : Int} (op0 : Int) (hop0 : op0 ≤ op ∧ op ≤ op0 + 1) (h : RD w rb TL at_ op ⟨0, 0, 0⟩) (t : Tk) (k : Int) (hk : k ≠ 0) :
    Calls Tryd.prog 30 #[.pointer (some ⟨rb, 0, none⟩), tkAgg t, .int .i64 k] w fun e w' => e = .returned (.tuple #[]) ∧ RE w' rb op0 ⟨t.line, t.col, k⟩ ∧ At rb w w' := by
  have HD := Lib.hid h
  have hrl := h.lt
  obtain ⟨A, c, hg, -⟩ := h
  obtain ⟨g0, g1, g2, g3, g4, g5, f0, f1, f2, f3, f4, f5⟩ := six_of hg
  clear hg
  go_enter Tryd.func30, Tryd.ntmps30
  go_wp2
  refine bodyPost_end (results_none rfl _ _ _) rfl ?_
  obtain ⟨h1, h2⟩ := HD.out.fail ⟨t.line, t.col, k⟩
  exact ⟨rfl, ⟨hk, TL, at_, op, h1.alloc _, hop0.1, hop0.2⟩, h2.trans (Turn.alloc _ _)⟩
theorem fail_calls {w : World} {rb : Nat} {TL : List Tk} {at_ : Nat} {op : Int} (h : RD w rb TL at_ op ⟨0, 0, 0⟩) (t : Tk) (k : Int) (hk : k ≠ 0) :
    Calls Tryd.prog 30 #[.pointer (some ⟨rb, 0, none⟩), tkAgg t, .int .i64 k] w fun e w' => e = .returned (.tuple #[]) ∧ RE w' rb op ⟨t.line, t.col, k⟩ ∧ At rb w w' :=
  fail_at op ⟨Int.le_refl _, by omega⟩ h t k hk
set_option maxRecDepth 100000 in
set_option maxHeartbeats 1000000 in
theorem fail_err {w : World} {rb : Nat} {op : Int} {d : Dg} (h : RE w rb op d) (t : Tk) (k : Int) :
    Calls Tryd.prog 30 #[.pointer (some ⟨rb, 0, none⟩), tkAgg t, .int .i64 k] w fun e w' => e = .returned (.tuple #[]) ∧ Below w.heap.size w w' := by
  have hrl := h.lt
  obtain ⟨h0, TL, at_, op', hd, -⟩ := h
  obtain ⟨A, c, hg, -⟩ := hd
  obtain ⟨g0, g1, g2, g3, g4, g5, -⟩ := six_of hg
  have e1 : (d.e == 0) = false := by simpa using h0
  clear hg h0
  go_enter Tryd.func30, Tryd.ntmps30
  go_wp2
  refine bodyPost_end (results_none rfl _ _ _) rfl ?_
  exact ⟨rfl, (Below.refl _ w).alloc (Nat.le_refl _) _⟩
/-- how a call on the reader ends. -/
def EndsR {α : Type} (rb : Nat) (op : Int) (w : World) (V : World → α → Ending → Prop) (r : R α) (e : Ending) (w' : World) : Prop :=
  At rb w w' ∧ match r with
  | .ok (a, L) => V w' a e ∧ RO w' rb op L
  | .error d => (∃ a, V w' a e) ∧ RE w' rb op d
abbrev VU (_ : World) (_ : Unit) (e : Ending) : Prop := e = .returned (.tuple #[])
abbrev VN (_ : World) (a : Bs) (e : Ending) : Prop := e = .returned (vs a)
set_option maxRecDepth 100000 in
set_option maxHeartbeats 1000000 in
theorem rmust_calls {w : World} {rb : Nat} {op : Int} {L : List Tk} (h : RO w rb op L) (s : ByteArray) (q : Bs) (hs : s = ⟨q.toArray⟩) (h0 : q ≠ []) (h1 : q ≠ [63]) :
    Calls Tryd.prog 54 #[.pointer (some ⟨rb, 0, none⟩), .string s] w (EndsR rb op w VU (mustS q L)) := by
  have hH := is_calls h s q hs h0 h1
  unfold mustS
  generalize hasS q L = bl at *
  obtain ⟨b, L'⟩ := bl
  dsimp only at hH ⊢
  have HH := Lib.hid hH
  clear hH h hs h0 h1
  cases b with
  | true =>
    rw [if_pos rfl]
    go_enter Tryd.func54, Tryd.ntmps54
    go_wp2_with fail
    refine HH.out.mono ?_
    clear HH
    rintro e w1 ⟨rfl, hP, hA⟩
    go_wp2
    refine bodyPost_end (results_none rfl _ _ _) rfl ?_
    exact ⟨hA, rfl, hP⟩
  | false =>
    rw [if_neg (by simp)]
    go_enter Tryd.func54, Tryd.ntmps54
    go_wp2_with fail
    refine HH.out.mono ?_
    clear HH
    rintro e w1 ⟨rfl, hP, hA⟩
    obtain ⟨TL, at_, t, l, hd, rfl, ht, -⟩ := hP.open_
    have HD := Lib.hid hd
    have HT := Lib.hid ht
    have HA := Lib.hid hA
    clear hP hA hd ht
    go_wp2_with fail
    refine (next_calls HD.out HT.out).mono ?_
    rintro e w2 ⟨rfl, hb⟩
    have HB := Lib.hid hb
    have HD2 := Lib.hid (HD.out.below hb)
    clear hb
    go_wp2_with fail
    refine (fail_calls HD2.out t 8 (by decide)).mono ?_
    rintro e w3 ⟨rfl, hE, hA⟩
    have HE := Lib.hid hE
    have HA3 := Lib.hid hA
    clear hE hA
    go_wp2
    refine bodyPost_end (results_none rfl _ _ _) rfl ?_
    exact ⟨(HA.out.below HB.out).trans HA3.out, ⟨(), rfl⟩, HE.out⟩
set_option maxRecDepth 100000 in
set_option maxHeartbeats 1000000 in
theorem rmust_err {w : World} {rb : Nat} {op : Int} {d : Dg} (h : RE w rb op d) (s : ByteArray) :
    Calls Tryd.prog 54 #[.pointer (some ⟨rb, 0, none⟩), .string s] w fun e w' => e = .returned (.tuple #[]) ∧ Below w.heap.size w w' := by
  have HE := Lib.hid h
  clear h
  go_enter Tryd.func54, Tryd.ntmps54
  go_wp2_with fail
  refine (is_err HE.out s).mono ?_
  rintro e w1 ⟨rfl, hb⟩
  have HB := Lib.hid hb
  have HE1 := Lib.hid (HE.out.below hb)
  clear hb
  obtain ⟨h0, TL, at_, op', hd, -⟩ := HE1.out
  have hlt : at_ < TL.length := by obtain ⟨_, _, _, _, h, _⟩ := hd; exact h
  have HD := Lib.hid hd
  have HT := Lib.hid (List.getElem?_eq_getElem hlt)
  clear h0 hd
  go_wp2_with fail
  refine (next_calls HD.out HT.out).mono ?_
  rintro e w2 ⟨rfl, hb⟩
  have HB2 := Lib.hid hb
  have HE2 := Lib.hid (HE1.out.below hb)
  clear hb
  go_wp2_with fail
  refine (fail_err HE2.out _ 8).mono ?_
  rintro e w3 ⟨rfl, hb⟩
  have HB3 := Lib.hid hb
  clear hb
  go_wp2
  refine bodyPost_end (results_none rfl _ _ _) rfl ?_
  exact ⟨rfl, keepB (keepB HB.out HB2.out) HB3.out⟩
theorem tok_fit {w : World} {rb : Nat} {TL : List Tk} {at_ : Nat} {op : Int} {d : Dg} (h : RD w rb TL at_ op d) {t : Tk} (ht : TL[at_]? = some t) : t.s.length ≤ 5000 := by
  obtain ⟨_, _, _, _, _, _, h⟩ := h
  exact h t (List.mem_of_getElem? ht)
set_option maxRecDepth 100000 in
set_option maxHeartbeats 1000000 in
theorem rname_calls {w : World} {rb : Nat} {op : Int} {L : List Tk} (h : RO w rb op L) : Calls Tryd.prog 27 #[.pointer (some ⟨rb, 0, none⟩)] w (EndsR rb op w VN (nameS L)) := by
  obtain ⟨TL, at_, t, l, hd, rfl, ht, hdr, hf⟩ := h.open_
  have HD := Lib.hid hd
  have HT := Lib.hid ht
  have HN := Lib.hid (fun W => refName_calls ⟨t.s.toArray⟩ W (by rw [sz]; have := tok_fit hd ht; omega))
  have HNM := Lib.hid (show nameB ⟨t.s.toArray⟩ = nm t.s from rfl)
  have HDR := Lib.hid hdr
  have HFI := Lib.hid hf
  clear h hd ht hdr hf
  go_enter Tryd.func27, Tryd.ntmps27
  go_wp2_with fail
  refine (next_calls HD.out HT.out).mono ?_
  rintro e w1 ⟨rfl, hb⟩
  have HB1 := Lib.hid hb
  have hd1 := (HD.out.below hb).alloc (.cells #[vs t.s, .int .i64 t.line, .int .i64 t.col] 67)
  have HD1 := Lib.hid hd1
  have hrl := HD.out.lt
  have hw1 := hb.size
  have hat5 : at_ ≤ 5000 := by obtain ⟨_, _, _, _, h1, h2, _⟩ := hd1; omega
  obtain ⟨A, c, hg, -⟩ := hd1
  obtain ⟨g0, g1, g2, g3, g4, g5, f0, f1, f2, f3, f4, f5⟩ := six_of hg
  clear hb hg
  go_wp2_with fail
  refine (HN.out _).mono ?_
  rintro e w2 ⟨rfl, rfl⟩
  rw [HNM.out]
  obtain ⟨b, hb⟩ : ∃ b, nm t.s = b := ⟨_, rfl⟩
  rw [hb]
  have HBB := Lib.hid hb
  have HSS := Lib.hid (show nameS (t :: l) = if b then .ok (t.s, l) else failsL 8 (t :: l) by rw [← hb]; rfl)
  clear hb
  cases b with
  | true =>
    have hne : t.s ≠ [] := fun e => by have := HBB.out; rw [e, nm_nil] at this; cases this
    have hnq : t.s ≠ [63] := fun e => by have := HBB.out; rw [e, nm_q] at this; cases this
    have HRS := Lib.hid (RO.step (t := t) HD1.out HDR.out (HFI.out.next hne hnq))
    clear hne hnq
    go_wp2
    go_ret
    rw [HSS.out]
    exact ⟨((at_below HB1.out).trans (Turn.alloc _ _)).trans (at_set _ _ _ _), rfl, HRS.out⟩
  | false =>
    go_wp2_with fail
    refine (fail_calls HD1.out t 8 (by decide)).mono ?_
    rintro e w3 ⟨rfl, hE, hA⟩
    have HE := Lib.hid hE
    have HA3 := Lib.hid hA
    clear hE hA
    go_wp2
    go_ret
    rw [HSS.out]
    exact ⟨((at_below HB1.out).trans (Turn.alloc _ _)).trans HA3.out, ⟨[], rfl⟩, HE.out⟩
set_option maxRecDepth 100000 in
set_option maxHeartbeats 1000000 in
theorem rname_err {w : World} {rb : Nat} {op : Int} {d : Dg} (h : RE w rb op d) : Calls Tryd.prog 27 #[.pointer (some ⟨rb, 0, none⟩)] w fun e w' => e = .returned (vs []) ∧ Below w.heap.size w w' := by
  have HE := Lib.hid h
  have hrl := h.lt
  obtain ⟨h0, TL, at_, op', hd, -⟩ := h
  have hlt : at_ < TL.length := by obtain ⟨_, _, _, _, h, _⟩ := hd; exact h
  have HD := Lib.hid hd
  have HT := Lib.hid (List.getElem?_eq_getElem hlt)
  have HN := Lib.hid (fun W => refName_calls ⟨(TL[at_]).s.toArray⟩ W (by rw [sz]; have := tok_fit hd (List.getElem?_eq_getElem hlt); omega))
  have HNM := Lib.hid (show nameB ⟨(TL[at_]).s.toArray⟩ = nm (TL[at_]).s from rfl)
  have e1 : (d.e == 0) = false := by simpa using h0
  have e2 : (d.e != 0) = true := by simpa using h0
  generalize TL[at_] = t at *
  clear h0 hd
  go_enter Tryd.func27, Tryd.ntmps27
  go_wp2_with fail
  refine (next_calls HD.out HT.out).mono ?_
  rintro e w1 ⟨rfl, hb⟩
  have HB1 := Lib.hid hb
  have hd1 := (HD.out.below hb).alloc (.cells #[vs t.s, .int .i64 t.line, .int .i64 t.col] 67)
  have HE1 := Lib.hid ((HE.out.below hb).below ((Below.refl _ w1).alloc (Nat.le_refl _) (.cells #[vs t.s, .int .i64 t.line, .int .i64 t.col] 67)))
  have hw1 := hb.size
  obtain ⟨A, c, hg, -⟩ := hd1
  obtain ⟨g0, g1, g2, g3, g4, g5, -⟩ := six_of hg
  clear hb hg
  go_wp2_with fail
  refine (HN.out _).mono ?_
  rintro e w2 ⟨rfl, rfl⟩
  rw [HNM.out]
  generalize nm t.s = b at *
  cases b
  all_goals
    go_wp2_with fail
    refine (fail_err HE1.out t 8).mono ?_
    rintro e w3 ⟨rfl, hb⟩
    have HB3 := Lib.hid hb
    clear hb
    go_wp2
    go_ret
    exact ⟨rfl, keepB (belAlloc HB1.out _) HB3.out⟩
end Go.Proofs.YtgmlcnikphbiiaaDoor.L

/-
  HTTP: Parse (the program's).
-/
import Derived.Test.YtomancadpdccaaaGreatDoorHtM
namespace Go.Proofs.YtomancadpdccaaaGreatDoor.Ht
open Go.RowKit Go.Proofs.YtomancadpdccaaaGreatDoor.B
open Go.Proofs.YtomancadpdccaaaGreatDoor.M hiding Bs
open Go.Proofs.YtomancadpdccaaaGreatDoor.C (QRow Turn OwnF Elem upd)
set_option linter.unusedVariables false
set_option linter.unusedSimpArgs false

theorem pb_long {b : Bs} (h : 16384 < b.length) : (parseB Nu.parseF b).2 = 413 := by unfold parseB; rw [if_pos h]
theorem pb_none {b : Bs} (h : ¬ 16384 < b.length) (h2 : Lib.index b crlf2 < 0) : (parseB Nu.parseF b).2 = 400 := by unfold parseB; rw [if_neg h, if_pos h2]
theorem pb_some {b : Bs} {i : Nat} (h : ¬ 16384 < b.length) (h2 : Lib.index b crlf2 = i) : parseB Nu.parseF b = headF Nu.parseF (b.take i) (b.drop (i + 4)) := by unfold parseB; rw [if_neg h, h2, if_neg (by omega), Int.toNat_natCast]
theorem RqRet.cases {w : World} {r : Rq × Nat} {e : Ending} {w' : World} (h : RqRet w r e w') : Below w.heap.size w w' ∧ ((r.2 = 0 ∧ ∃ A c, e = .returned (.tuple #[.agg #[vs r.1.path, vs r.1.token, .slice A r.1.body.length c], .int .i64 0]) ∧ r.1.body.length ≤ c ∧ Nu.BRead w' A r.1.body.length r.1.body) ∨
    (r.2 ≠ 0 ∧ e = .returned (.tuple #[.agg #[.string ⟨#[]⟩, .string ⟨#[]⟩, .slice none 0 0], .int .i64 (r.2 : Int)]))) := by
  obtain ⟨h1, h2⟩ := h
  refine ⟨h1, ?_⟩
  by_cases h0 : r.2 = 0
  · rw [if_pos h0] at h2; exact .inl ⟨h0, h2⟩
  · rw [if_neg h0] at h2; exact .inr ⟨h0, h2⟩
theorem rq_ok {w w' : World} {e : Ending} {r : Rq × Nat} (h0 : r.2 = 0) (hb : Below w.heap.size w w') (he : ∃ A c, e = .returned (.tuple #[.agg #[vs r.1.path, vs r.1.token, .slice A r.1.body.length c], .int .i64 0]) ∧ r.1.body.length ≤ c ∧ Nu.BRead w' A r.1.body.length r.1.body) : RqRet w r e w' := by
  refine ⟨hb, ?_⟩
  rw [if_pos h0]
  exact he
theorem bread_turn2 {w w' : World} {sb n : Nat} {A : Option Addr} {l : Bs} (h : Nu.BRead w A n l) (hT : Turn (fun k => k = sb) w w') (hg : ∀ ad i, A = some ad → i < n → ad.block ≠ sb) : Nu.BRead w' A n l := by
  refine ⟨h.1, h.2.1, fun hp => ?_⟩
  obtain ⟨ad, h1, h2⟩ := h.2.2 hp
  refine ⟨ad, h1, fun i hi => ?_⟩
  have hc := h2 i hi
  have hl := World.block_lt_of_cell? _ _ hc
  rw [← hc]
  refine cell_congr ?_
  rw [add_block] at hl ⊢
  exact hT.block _ hl (hg ad i h1 hi)
/-- a byte's cell is none of a text's. -/
theorem bread_apart {w : World} {sb n : Nat} {A : Option Addr} {l : Bs} {t : Value} {tt : TypeId} {x1 x2 : Value} (h : Nu.BRead w A n l) (hr : w.heap[sb]? = some (.cells #[.string ⟨#[]⟩, x1, x2] tt (0, 0))) (hx : ∀ c : Int, x1 ≠ .int .u8 c) (hx2 : ∀ c : Int, x2 ≠ .int .u8 c) : ∀ ad i, A = some ad → i < n → ad.block ≠ sb := fun ad i hA hi e => by
  obtain ⟨ad', h1, h2⟩ := h.2.2 (by omega)
  rw [hA] at h1
  cases h1
  have hc := h2 i hi
  have hh : w.heap[(ad.add i).block]? = some (.cells #[.string ⟨#[]⟩, x1, x2] tt (0, 0)) := by rw [add_block, e]; exact hr
  unfold World.cell? at hc
  rw [hh] at hc
  simp only at hc
  have hcases : ∀ (k : Nat) (v : Value), (#[Value.string ⟨#[]⟩, x1, x2] : Array Value)[k]? = some v → v = .string ⟨#[]⟩ ∨ v = x1 ∨ v = x2 := fun k v hk => by
    match k with
    | 0 => simp at hk; exact .inl hk.symm
    | 1 => simp at hk; exact .inr (.inl hk.symm)
    | 2 => simp at hk; exact .inr (.inr hk.symm)
    | k + 3 => simp at hk
  split at hc
  · cases hc
  · have hcc := hcases _ _ hc
    rcases hcc with h | h | h
    · cases h
    · exact hx _ h.symm
    · exact hx2 _ h.symm
set_option maxRecDepth 100000 in
set_option maxHeartbeats 8000000 in
theorem Parse_calls (b : Bs) (A : Option Addr) (n c : Nat) (w : World) (hr : Nu.BRead w A n b) (hn : n ≤ 900000) (hm : Mx w) (ht : Nu.Tab w) (he : Nu.Errs w) :
    Calls Tryz.prog 11 #[.slice A n c] w (RqRet w (parseB Nu.parseF b)) := by
  have hbl : b.length = n := hr.1
  obtain ⟨w0, hw0⟩ : ∃ w0, w.alloc (.cells #[.string ⟨#[]⟩, .string ⟨#[]⟩, .slice none 0 0] 25) = w0 := ⟨_, rfl⟩
  have hl0 : w.heap.size < w0.heap.size := by rw [← hw0]; simp
  have HR0 := Lib.hid (show w0.heap[w.heap.size]? = some (.cells #[.string ⟨#[]⟩, .string ⟨#[]⟩, .slice none 0 0] 25 (0, 0)) by rw [← hw0]; exact heap_alloc_new w _)
  have HB0 := Lib.hid (show Below w.heap.size w w0 by rw [← hw0]; exact (Below.refl _ w).alloc (Nat.le_refl _) _)
  have HNR := Lib.hid (fun (V : World) (hb : Below w0.heap.size w0 V) => (hb.block w.heap.size hl0).trans HR0.out)
  have HBR := Lib.hid (Below.refl w0.heap.size w0)
  have hcv := conv_rd (c := c) (bread_below hr HB0.out)
  have HCT := Lib.hid (Cut_c b crlf2 w0 (by omega) (hm.below HB0.out))
  have HCT2 := Lib.hid (show Calls Tryz.prog 22 #[vs b, .string ⟨#[13, 10, 13, 10]⟩] w0 _ from HCT.out)
  have HPC := Lib.hid (fun h2 b2 (h1 : h2.length ≤ 900000) (h3 : b2.length ≤ 900000) (V : World) (hb : Below w0.heap.size w0 V) => parse_calls h2 b2 h1 h3 V (hm.below (keepB' HB0.out hb HB0.out.size)) (Nu.Tab.below ht (keepB' HB0.out hb HB0.out.size)) (Nu.Errs.below he (keepB' HB0.out hb HB0.out.size)))
  clear hr hm ht he HCT
  have HPB := Lib.hid (fun (h : ¬ 16384 < b.length) i (hi : Lib.index b crlf2 = ((i : Nat) : Int)) => pb_some h hi)
  have HPL := Lib.hid (fun h => pb_long (b := b) h)
  have HPN := Lib.hid (fun h h2 => pb_none (b := b) h h2)
  obtain ⟨r, hrr⟩ : ∃ r, parseB Nu.parseF b = r := ⟨_, rfl⟩
  rw [hrr] at HPL HPN HPB ⊢
  clear hrr
  go_enter Tryz.func11, Tryz.ntmps11
  by_cases hlong : 16384 < n
  · have hlong' : (16384 : Int) < (n : Int) := by omega
    have HE1 := Lib.hid (HPL.out (by omega))
    obtain ⟨r0, r1, r2, f0, f1, f2⟩ := six_c (HNR.out (w0) HBR.out)
    go_wp2_with fail
    have hh5 := set3 (HNR.out (w0) HBR.out) (.string ⟨#[]⟩) (.string ⟨#[]⟩) (.slice none 0 0)
    have hT5 := set3_turn (w0) w.heap.size (.string ⟨#[]⟩) (.string ⟨#[]⟩) (.slice none 0 0)
    have hb5 := below_turn (keepB' HB0.out HBR.out HB0.out.size) hT5 (Nat.le_refl _)
    generalize hW5 : (((w0).setCell ⟨w.heap.size, 0, none⟩ (.string ⟨#[]⟩)).setCell ⟨w.heap.size, 1, none⟩ (.string ⟨#[]⟩)).setCell ⟨w.heap.size, 2, none⟩ (.slice none 0 0) = W5 at hh5 hT5 hb5 ⊢
    obtain ⟨m0, m1, m2, -⟩ := six_c hh5
    exact bodyPost_ret (v := .tuple #[.agg #[.string ⟨#[]⟩, .string ⟨#[]⟩, .slice none 0 0], .int .i64 413]) (by simp [results, Tryz.results11, go_sem, m0, m1, m2]) rfl (rq_err HE1.out (by decide) hb5 rfl)
  · have hlong' : ¬ (16384 : Int) < (n : Int) := by omega
    go_wp2_with fail
    refine HCT2.out.mono ?_
    rintro e w1 ⟨rfl, hb1⟩
    have HB1 := Lib.hid hb1
    clear hb1 HCT2
    by_cases hneg : Lib.index b crlf2 < 0
    · have HE1 := Lib.hid (HPN.out (by omega) hneg)
      rw [cut_no hneg]
      clear hneg
      obtain ⟨r0, r1, r2, f0, f1, f2⟩ := six_c (HNR.out (w1) HB1.out)
      go_wp2_with fail
      have hh5 := set3 (HNR.out (w1) HB1.out) (.string ⟨#[]⟩) (.string ⟨#[]⟩) (.slice none 0 0)
      have hT5 := set3_turn (w1) w.heap.size (.string ⟨#[]⟩) (.string ⟨#[]⟩) (.slice none 0 0)
      have hb5 := below_turn (keepB' HB0.out HB1.out HB0.out.size) hT5 (Nat.le_refl _)
      generalize hW5 : (((w1).setCell ⟨w.heap.size, 0, none⟩ (.string ⟨#[]⟩)).setCell ⟨w.heap.size, 1, none⟩ (.string ⟨#[]⟩)).setCell ⟨w.heap.size, 2, none⟩ (.slice none 0 0) = W5 at hh5 hT5 hb5 ⊢
      obtain ⟨m0, m1, m2, -⟩ := six_c hh5
      exact bodyPost_ret (v := .tuple #[.agg #[.string ⟨#[]⟩, .string ⟨#[]⟩, .slice none 0 0], .int .i64 400]) (by simp [results, Tryz.results11, go_sem, m0, m1, m2]) rfl (rq_err HE1.out (by decide) hb5 rfl)
    · obtain ⟨i, hi⟩ : ∃ i : Nat, Lib.index b crlf2 = i := ⟨(Lib.index b crlf2).toNat, by omega⟩
      have hpb := HPB.out (by omega) i hi
      have HP := Lib.hid (HPC.out (b.take i) (b.drop (i + 4)) (by rw [List.length_take]; omega) (by rw [List.length_drop]; omega) w1 HB1.out)
      rw [← hpb] at HP
      rw [cut_at hi, show i + crlf2.length = i + 4 from rfl]
      clear hpb hneg hi HPC
      clear HPL HPN HPB
      go_wp2_with fail
      refine HP.out.mono ?_
      intro e w2 hret
      obtain ⟨hb2, hret⟩ := hret.cases
      have HB2 := Lib.hid (keepB HB1.out hb2)
      clear hb2 HP
      rcases hret with ⟨h0, A2, c2, rfl, hc2, hrd⟩ | ⟨h0, rfl⟩
      · have HRD := Lib.hid (bread_apart (t := .bool true) hrd (HNR.out w2 HB2.out) (fun _ h => by cases h) (fun _ h => by cases h))
        have HRE := Lib.hid hrd
        clear hrd
        obtain ⟨⟨path, tok, body⟩, st⟩ := r
        have h0' : st = 0 := h0
        subst h0'
        clear h0
        have e1 : ((⟨path, tok, body⟩, 0) : Rq × Nat).1.path = path := rfl
        have e2 : ((⟨path, tok, body⟩, 0) : Rq × Nat).1.token = tok := rfl
        have e3 : ((⟨path, tok, body⟩, 0) : Rq × Nat).1.body = body := rfl
        rw [e1, e2, e3] at *
        clear e1 e2 e3
        obtain ⟨r0, r1, r2, f0, f1, f2⟩ := six_c (HNR.out (w2) HB2.out)
        go_wp2_with fail
        have hh5 := set3 (HNR.out (w2) HB2.out) (vs path) (vs tok) (.slice A2 body.length c2)
        have hT5 := set3_turn (w2) w.heap.size (vs path) (vs tok) (.slice A2 body.length c2)
        have hb5 := below_turn (keepB' HB0.out HB2.out HB0.out.size) hT5 (Nat.le_refl _)
        generalize hW5 : (((w2).setCell ⟨w.heap.size, 0, none⟩ (vs path)).setCell ⟨w.heap.size, 1, none⟩ (vs tok)).setCell ⟨w.heap.size, 2, none⟩ (.slice A2 body.length c2) = W5 at hh5 hT5 hb5 ⊢
        obtain ⟨m0, m1, m2, -⟩ := six_c hh5
        exact bodyPost_ret (v := .tuple #[.agg #[vs path, vs tok, .slice A2 body.length c2], .int .i64 0]) (by simp [results, Tryz.results11, go_sem, m0, m1, m2]) rfl (rq_ok rfl hb5 ⟨_, _, rfl, hc2, bread_turn2 HRE.out hT5 HRD.out⟩)
      · obtain ⟨rq, st⟩ := r
        rw [show ((rq, st) : Rq × Nat).2 = st from rfl] at *
        obtain ⟨r0, r1, r2, f0, f1, f2⟩ := six_c (HNR.out (w2) HB2.out)
        go_wp2_with fail
        have hh5 := set3 (HNR.out (w2) HB2.out) (.string ⟨#[]⟩) (.string ⟨#[]⟩) (.slice none 0 0)
        have hT5 := set3_turn (w2) w.heap.size (.string ⟨#[]⟩) (.string ⟨#[]⟩) (.slice none 0 0)
        have hb5 := below_turn (keepB' HB0.out HB2.out HB0.out.size) hT5 (Nat.le_refl _)
        generalize hW5 : (((w2).setCell ⟨w.heap.size, 0, none⟩ (.string ⟨#[]⟩)).setCell ⟨w.heap.size, 1, none⟩ (.string ⟨#[]⟩)).setCell ⟨w.heap.size, 2, none⟩ (.slice none 0 0) = W5 at hh5 hT5 hb5 ⊢
        obtain ⟨m0, m1, m2, -⟩ := six_c hh5
        exact bodyPost_ret (v := .tuple #[.agg #[.string ⟨#[]⟩, .string ⟨#[]⟩, .slice none 0 0], .int .i64 (st : Int)]) (by simp [results, Tryz.results11, go_sem, m0, m1, m2]) rfl (rq_err rfl h0 hb5 rfl)
end Go.Proofs.YtomancadpdccaaaGreatDoor.Ht

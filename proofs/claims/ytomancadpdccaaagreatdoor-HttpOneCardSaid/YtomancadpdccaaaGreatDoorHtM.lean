/-
  HTTP: parse, Parse (the program's).
-/
import Derived.Test.YtomancadpdccaaaGreatDoorHtL
namespace Go.Proofs.YtomancadpdccaaaGreatDoor.Ht
open Go.RowKit Go.Proofs.YtomancadpdccaaaGreatDoor.B
open Go.Proofs.YtomancadpdccaaaGreatDoor.M hiding Bs
open Go.Proofs.YtomancadpdccaaaGreatDoor.C (QRow Turn OwnF Elem upd)
set_option linter.unusedVariables false
set_option linter.unusedSimpArgs false

theorem six_c {w : World} {b : Nat} {x0 x1 x2 : Value} {e : TypeId} (h : w.heap[b]? = some (.cells #[x0, x1, x2] e (0, 0))) :
    w.cell? ⟨b, 0, none⟩ = some x0 ∧ w.cell? ⟨b, 1, none⟩ = some x1 ∧ w.cell? ⟨b, 2, none⟩ = some x2 ∧ w.frozen? ⟨b, 0, none⟩ = false ∧ w.frozen? ⟨b, 1, none⟩ = false ∧ w.frozen? ⟨b, 2, none⟩ = false :=
  ⟨cells_of h 0 _ rfl, cells_of h 1 _ rfl, cells_of h 2 _ rfl, frz_of h 0, frz_of h 1, frz_of h 2⟩
theorem set3 {w : World} {b : Nat} {x0 x1 x2 : Value} {e : TypeId} (h : w.heap[b]? = some (.cells #[x0, x1, x2] e (0, 0))) (y0 y1 y2 : Value) :
    (((w.setCell ⟨b, 0, none⟩ y0).setCell ⟨b, 1, none⟩ y1).setCell ⟨b, 2, none⟩ y2).heap[b]? = some (.cells #[y0, y1, y2] e (0, 0)) :=
  heap_setCell_same _ b 2 _ _ _ (heap_setCell_same _ b 1 _ _ _ (heap_setCell_same w b 0 _ _ _ h))
theorem set3_turn (wx : World) (vb : Nat) (y0 y1 y2 : Value) : Turn (fun k => k = vb) wx (((wx.setCell ⟨vb, 0, none⟩ y0).setCell ⟨vb, 1, none⟩ y1).setCell ⟨vb, 2, none⟩ y2) := turn_then (turn_then (Turn.setCell _ _ _ rfl) (Turn.setCell _ _ _ rfl)) (Turn.setCell _ _ _ rfl)
theorem bread_below {w w' : World} {A : Option Addr} {n : Nat} {l : Bs} (h : Nu.BRead w A n l) (hb : Below w.heap.size w w') : Nu.BRead w' A n l := by
  refine ⟨h.1, h.2.1, fun hp => ?_⟩
  obtain ⟨ad, h1, h2⟩ := h.2.2 hp
  exact ⟨ad, h1, fun i hi => keepC hb (h2 i hi)⟩
theorem bread_turn {w w' : World} {sb g n : Nat} {l : Bs} (h : Nu.BRead w (some ⟨g, 0, none⟩) n l) (hT : Turn (fun k => k = sb) w w') (hg : g ≠ sb) (hl : g < w.heap.size) : Nu.BRead w' (some ⟨g, 0, none⟩) n l := by
  refine ⟨h.1, h.2.1, fun hp => ?_⟩
  obtain ⟨ad, h1, h2⟩ := h.2.2 hp
  cases h1
  refine ⟨_, rfl, fun i hi => ?_⟩
  have hc := h2 i hi
  rw [← hc]
  refine cell_congr ?_
  rw [add_block]
  exact hT.block g hl hg
theorem trim_le (s : Bs) : (trim s).length ≤ s.length := by
  rw [trim_eq]
  have h1 : ∀ l : Bs, (l.dropWhile sp).length ≤ l.length := fun l => (List.dropWhile_sublist sp).length_le
  have h2 := h1 (s.reverse.dropWhile sp).reverse
  have h3 := h1 s.reverse
  rw [List.length_reverse] at h2 h3
  omega
theorem hd_val {s : Bs} {d : Hd} (h : hdF s = some d) : d.value.length ≤ s.length := by
  unfold hdF at h
  split at h
  · cases h
  · split at h
    · cases h
      have := trim_le (s.drop ((Lib.index s [58]).toNat + 1))
      rw [List.length_drop] at this
      show (trim _).length ≤ _
      omega
    · cases h
theorem hds_val : ∀ {l : List Bs} {a : List Hd} {N : Nat}, hdsF l = some a → (∀ x ∈ l, x.length ≤ N) → ∀ d ∈ a, d.value.length ≤ N
  | [], a, N, h, _, d, hd => by cases h; simp at hd
  | y :: l, a, N, h, hl, d, hd => by
    rw [hdsF] at h
    cases hy : hdF y with
    | none => rw [hy] at h; cases h
    | some e =>
      rw [hy] at h
      cases hh : hdsF l with
      | none => rw [hh] at h; cases h
      | some r =>
        rw [hh] at h
        cases h
        rcases List.mem_cons.1 hd with rfl | hd
        · have := hd_val hy
          have := hl y (by simp)
          omega
        · exact hds_val hh (fun x hx => hl x (by simp [hx])) d hd
def RqRet (w : World) (r : Rq × Nat) (e : Ending) (w' : World) : Prop := Below w.heap.size w w' ∧
  if r.2 = 0 then ∃ A c, e = .returned (.tuple #[.agg #[vs r.1.path, vs r.1.token, .slice A r.1.body.length c], .int .i64 0]) ∧ r.1.body.length ≤ c ∧ Nu.BRead w' A r.1.body.length r.1.body
  else e = .returned (.tuple #[.agg #[vs [], vs [], .slice none 0 0], .int .i64 (r.2 : Int)])
theorem rq_err {w w' : World} {e : Ending} {r : Rq × Nat} {st : Nat} (h : r.2 = st) (h0 : st ≠ 0) (hb : Below w.heap.size w w') (he : e = .returned (.tuple #[.agg #[.string ⟨#[]⟩, .string ⟨#[]⟩, .slice none 0 0], .int .i64 (st : Int)])) : RqRet w r e w' := by
  refine ⟨hb, ?_⟩
  rw [if_neg (by omega), h]
  exact he
theorem RdS.tail {w : World} {g : Nat} {l : List Bs} (h : RdS w (some ⟨g, 0, none⟩) l) : RdS w (some ⟨g, 1, none⟩) l.tail := fun i x hx => by
  have hx' : l[i + 1]? = some x := by rw [← hx]; cases l <;> simp
  obtain ⟨ad, h1, h2⟩ := h (i + 1) x hx'
  cases h1
  refine ⟨_, rfl, ?_⟩
  rw [Addr.add_lit] at h2 ⊢
  rw [← h2]
  congr 2
  omega
theorem lines_cons {f : Bs} {l : List Bs} {pf : Bs → Option Nat} {body : Bs} : linesF pf (f :: l) body = if (fstF f).2 ≠ 0 then (noR, (fstF f).2) else if 16 < l.length then (noR, 431) else
      match hdsF l with
      | none => (noR, 400)
      | some hs => if frF pf hs body.length ≠ 0 then (noR, frF pf hs body.length) else
        if (beF (valsF hs kAuth)).2 ≠ 0 then (noR, (beF (valsF hs kAuth)).2) else (⟨(fstF f).1, (beF (valsF hs kAuth)).1, body⟩, 0) := rfl
set_option maxRecDepth 100000 in
set_option maxHeartbeats 8000000 in
theorem parse_calls (head body : Bs) (hh : head.length ≤ 900000) (hbl : body.length ≤ 900000) (w : World) (hm : Mx w) (ht : Nu.Tab w) (he : Nu.Errs w) :
    Calls Tryz.prog 23 #[vs head, vs body] w (RqRet w (headF Nu.parseF head body)) := by
  obtain ⟨w0, hw0⟩ : ∃ w0, (w.alloc (.cells #[.string ⟨#[]⟩, .string ⟨#[]⟩, .slice none 0 0] 25)).alloc (.cells #[.string ⟨#[]⟩, .string ⟨#[]⟩, .slice none 0 0] 25) = w0 := ⟨_, rfl⟩
  have hs1 : (w.alloc (.cells #[.string ⟨#[]⟩, .string ⟨#[]⟩, .slice none 0 0] 25)).heap.size = w.heap.size + 1 := by simp
  have hl0 : w.heap.size + 1 < w0.heap.size := by rw [← hw0]; simp
  have HR0 := Lib.hid (show w0.heap[w.heap.size]? = some (.cells #[.string ⟨#[]⟩, .string ⟨#[]⟩, .slice none 0 0] 25 (0, 0)) by rw [← hw0]; exact (alloc_old _ (by omega)).trans (heap_alloc_new w _))
  have HZ0 := Lib.hid (show w0.heap[w.heap.size + 1]? = some (.cells #[.string ⟨#[]⟩, .string ⟨#[]⟩, .slice none 0 0] 25 (0, 0)) by rw [← hw0, ← hs1]; exact heap_alloc_new _ _)
  have HB0 := Lib.hid (show Below w.heap.size w w0 by rw [← hw0]; exact ((Below.refl _ w).alloc (Nat.le_refl _) _).alloc (by omega) _)
  clear hs1
  have HNR := Lib.hid (fun (V : World) (hb : Below w0.heap.size w0 V) => (hb.block w.heap.size (by omega)).trans HR0.out)
  have HNZ := Lib.hid (fun (V : World) (hb : Below w0.heap.size w0 V) => (hb.block (w.heap.size + 1) (by omega)).trans HZ0.out)
  have HM := Lib.hid (fun (V : World) (hb : Below w0.heap.size w0 V) => Mx.below hm (keepB' HB0.out hb HB0.out.size))
  have HT := Lib.hid (fun (V : World) (hb : Below w0.heap.size w0 V) => Nu.Tab.below ht (keepB' HB0.out hb HB0.out.size))
  have HE := Lib.hid (fun (V : World) (hb : Below w0.heap.size w0 V) => Nu.Errs.below he (keepB' HB0.out hb HB0.out.size))
  have hlw : w.heap.size < w0.heap.size := by omega
  have hsp := Split_c head crlf w0 (by omega) (by decide) (HM.out w0 (Below.refl _ _))
  have HSP := Lib.hid (show Calls Tryz.prog 43 #[vs head, .string ⟨#[13, 10]⟩] w0 _ from hsp)
  have hne := spl_ne head crlf (by decide)
  have HCNT := Lib.hid (split_count (s := head) (t := crlf) (by decide))
  have HPL := Lib.hid (fun (x : Bs) (h : x ∈ Lib.split head crlf) => Nat.le_trans (part_le (s := head) (t := crlf) (by decide) h) hh)
  have HFF := Lib.hid (show headF Nu.parseF head body = linesF Nu.parseF (Lib.split head crlf) body from rfl)
  clear hsp hm ht he
  obtain ⟨F, hF⟩ : ∃ F, headF Nu.parseF head body = F := ⟨_, rfl⟩
  rw [hF] at HFF ⊢
  clear hF
  generalize Lib.split head crlf = ls at *
  cases ls with
  | nil => exact absurd rfl hne
  | cons f l =>
  rw [lines_cons] at HFF
  clear hne
  have hfl := HPL.out f (by simp)
  have HFC := Lib.hid (fun V hb => first_calls f (by omega) V hb)
  obtain ⟨⟨path, st⟩, hfst⟩ : ∃ r, fstF f = r := ⟨_, rfl⟩
  rw [hfst] at HFF HFC
  clear hfst
  go_enter Tryz.func23, Tryz.ntmps23
  go_wp2_with fail
  refine HSP.out.mono ?_
  rintro e w1 ⟨g, n, rfl, hn, hr, hb1⟩
  have HB1 := Lib.hid hb1
  have HRL := Lib.hid hr
  have hn1 : n = l.length + 1 := by rw [← hn]; simp
  have hcn : n ≤ 1000000 := by have := HCNT.out; rw [hn] at this; omega
  have hnp : (0 : Int) < (n : Int) := by omega
  have hnp1 : (1 : Int) ≤ (n : Int) := by omega
  have hc0 := hr.get (i := 0) (by simp)
  rw [Addr.add_lit] at hc0
  have hc0 : w1.cell? ⟨g, 0, none⟩ = some (vs f) := hc0
  have HN1 := Lib.hid hn1
  clear hb1 hr hn hn1 HSP
  go_wp2_with fail
  refine (HFC.out w1 (HM.out w1 HB1.out)).mono ?_
  rintro e w2 ⟨rfl, hb2⟩
  have HB2 := Lib.hid (keepB HB1.out hb2)
  have HRT := Lib.hid ((HRL.out.below hb2).tail)
  clear hb2 hc0 HFC HRL
  rw [show ((path, st) : Bs × Nat).1 = path from rfl, show ((path, st) : Bs × Nat).2 = st from rfl] at *
  by_cases hst : st = 0
  · subst hst
    rw [if_neg (by simp)] at HFF
    go_wp2_with fail
    · have HL0 := Lib.hid (show l = [] from List.eq_nil_of_length_eq_zero (by have := HN1.out; omega))
      have HRX : RdS w2 (some ⟨g, 0, none⟩) l := by rw [HL0.out]; exact RdS.nil _ _
      have HDC := Lib.hid (heads_calls l (some ⟨g, 0, none⟩) (0) (0) w2 HRX (by have := HN1.out; omega) (by have := HN1.out; omega) (fun x hx => by have := HPL.out x (by simp [hx]); omega) (HM.out w2 HB2.out))
      refine HDC.out.mono ?_
      intro e w3 hhs
      have hb3 := hhs.1
      have HB3 := Lib.hid (keepB HB2.out hb3)
      have hres := hhs.2
      clear hhs HDC hb3
      by_cases h16 : 16 < l.length
      · rw [if_pos h16] at hres HFF
        subst hres
        have HE1 := Lib.hid (show F.2 = 431 by rw [HFF.out])
        clear HFF
        obtain ⟨r0, r1, r2, f0, f1, f2⟩ := six_c (HNR.out (w3) HB3.out)
        obtain ⟨z0, z1, z2, -⟩ := six_c (HNZ.out (w3) HB3.out)
        go_wp2_with fail
        have hh5 := set3 (HNR.out (w3) HB3.out) (.string ⟨#[]⟩) (.string ⟨#[]⟩) (.slice none 0 0)
        have hT5 := set3_turn (w3) w.heap.size (.string ⟨#[]⟩) (.string ⟨#[]⟩) (.slice none 0 0)
        have hb5 := below_turn (keepB' HB0.out HB3.out HB0.out.size) hT5 (Nat.le_refl _)
        generalize hW5 : (((w3).setCell ⟨w.heap.size, 0, none⟩ (.string ⟨#[]⟩)).setCell ⟨w.heap.size, 1, none⟩ (.string ⟨#[]⟩)).setCell ⟨w.heap.size, 2, none⟩ (.slice none 0 0) = W5 at hh5 hT5 hb5 ⊢
        obtain ⟨m0, m1, m2, -⟩ := six_c hh5
        exact bodyPost_ret (v := .tuple #[.agg #[.string ⟨#[]⟩, .string ⟨#[]⟩, .slice none 0 0], .int .i64 431]) (by simp [results, Tryz.results23, go_sem, m0, m1, m2]) rfl (rq_err HE1.out (by decide) hb5 rfl)
      · rw [if_neg h16] at hres HFF
        cases hds : hdsF l with
        | none =>
          rw [hds] at hres HFF
          have hres' : e = .returned (.tuple #[.map none, .int .i64 400]) := hres
          subst hres'
          have HE1 := Lib.hid (show F.2 = 400 by rw [HFF.out])
          clear HFF hres
          obtain ⟨r0, r1, r2, f0, f1, f2⟩ := six_c (HNR.out (w3) HB3.out)
          obtain ⟨z0, z1, z2, -⟩ := six_c (HNZ.out (w3) HB3.out)
          go_wp2_with fail
          have hh5 := set3 (HNR.out (w3) HB3.out) (.string ⟨#[]⟩) (.string ⟨#[]⟩) (.slice none 0 0)
          have hT5 := set3_turn (w3) w.heap.size (.string ⟨#[]⟩) (.string ⟨#[]⟩) (.slice none 0 0)
          have hb5 := below_turn (keepB' HB0.out HB3.out HB0.out.size) hT5 (Nat.le_refl _)
          generalize hW5 : (((w3).setCell ⟨w.heap.size, 0, none⟩ (.string ⟨#[]⟩)).setCell ⟨w.heap.size, 1, none⟩ (.string ⟨#[]⟩)).setCell ⟨w.heap.size, 2, none⟩ (.slice none 0 0) = W5 at hh5 hT5 hb5 ⊢
          obtain ⟨m0, m1, m2, -⟩ := six_c hh5
          exact bodyPost_ret (v := .tuple #[.agg #[.string ⟨#[]⟩, .string ⟨#[]⟩, .slice none 0 0], .int .i64 400]) (by simp [results, Tryz.results23, go_sem, m0, m1, m2]) rfl (rq_err HE1.out (by decide) hb5 rfl)
        | some hs =>
          have hvl := hds_val hds (fun x hx => show x.length ≤ 1000000 by have := HPL.out x (by simp [hx]); omega)
          have hhl := hds_len hds
          rw [hds] at hres HFF
          obtain ⟨mb, rfl, hMS⟩ := hres
          have HFC2 := Lib.hid (framed_calls hs w2.heap.size mb body w3 hMS (by omega) (by have := HN1.out; omega) hvl (HT.out w3 HB3.out) (HE.out w3 HB3.out))
          obtain ⟨fs, hfs⟩ : ∃ x, frF Nu.parseF hs body.length = x := ⟨_, rfl⟩
          have HFF2 := Lib.hid (show F = if frF Nu.parseF hs body.length ≠ 0 then (noR, frF Nu.parseF hs body.length) else if (beF (valsF hs kAuth)).2 ≠ 0 then (noR, (beF (valsF hs kAuth)).2) else (⟨path, (beF (valsF hs kAuth)).1, body⟩, 0) from HFF.out)
          rw [hfs] at HFC2 HFF2
          have HMS := Lib.hid hMS
          have HVL := Lib.hid hvl
          clear hfs hvl hMS HFF hds
          go_wp2_with fail
          refine HFC2.out.mono ?_
          rintro e w4 ⟨rfl, hb4⟩
          have HB4 := Lib.hid (keepB HB3.out hb4)
          have hM4 := HMS.out.below hb4
          clear hb4 HFC2 HMS
          by_cases hfs : fs = 0
          · subst hfs
            rw [if_neg (by simp)] at HFF2
            obtain ⟨A5, c5, hk5, hc5, hr5⟩ := hM4.look kAuth (by decide)
            have hk5' : (Instr.lookup 65 (.map (some mb)) (.string ⟨#[97, 117, 116, 104, 111, 114, 105, 122, 97, 116, 105, 111, 110]⟩) false).run Tryz.prog w4 = .ok (.slice A5 (valsF hs kAuth).length c5) w4 := hk5
            have hvn := vals_len hs kAuth
            have HBC := Lib.hid (bearer_calls (valsF hs kAuth) A5 (valsF hs kAuth).length c5 w4 rfl hr5 (fun x hx => by
              obtain ⟨d, hd, e⟩ := vals_mem hx
              rw [← e]; exact HVL.out d hd) (by have := HN1.out; omega))
            clear hk5 hr5 hM4
            generalize (valsF hs kAuth).length = n5 at *
            generalize beF (valsF hs kAuth) = be at *
            obtain ⟨tk, bs⟩ := be
            rw [show ((tk, bs) : Bs × Nat).1 = tk from rfl, show ((tk, bs) : Bs × Nat).2 = bs from rfl] at *
            go_wp2_with fail
            refine HBC.out.mono ?_
            rintro e w5 ⟨rfl, rfl⟩
            by_cases hbs : bs = 0
            · subst hbs
              rw [if_neg (by simp)] at HFF2
              obtain ⟨c6, w6, hcv, hc6, hrow6, hb6⟩ := conv_row w5 body
              have HB6 := Lib.hid (keepB HB4.out hb6)
              have hg6 := HB4.out.size
              have HBR6 := Lib.hid (hrow6.bread (by omega))
              have hl6 := hrow6.lt
              have HNEW := Lib.hid (show w5.heap.size ≠ w.heap.size by have := HB4.out.size; omega)
              clear hrow6 hb6
              obtain ⟨r0, r1, r2, f0, f1, f2⟩ := six_c (HNR.out (w6) HB6.out)
              go_wp2_with fail
              have hh5 := set3 (HNR.out (w6) HB6.out) (vs path) (vs tk) (.slice (some ⟨w5.heap.size, 0, none⟩) body.length c6)
              have hT5 := set3_turn (w6) w.heap.size (vs path) (vs tk) (.slice (some ⟨w5.heap.size, 0, none⟩) body.length c6)
              have hb5 := below_turn (keepB' HB0.out HB6.out HB0.out.size) hT5 (Nat.le_refl _)
              generalize hW5 : (((w6).setCell ⟨w.heap.size, 0, none⟩ (vs path)).setCell ⟨w.heap.size, 1, none⟩ (vs tk)).setCell ⟨w.heap.size, 2, none⟩ (.slice (some ⟨w5.heap.size, 0, none⟩) body.length c6) = W5 at hh5 hT5 hb5 ⊢
              obtain ⟨m0, m1, m2, -⟩ := six_c hh5
              exact bodyPost_ret (v := .tuple #[.agg #[vs path, vs tk, .slice (some ⟨w5.heap.size, 0, none⟩) body.length c6], .int .i64 0]) (by simp [results, Tryz.results23, go_sem, m0, m1, m2]) rfl (by rw [HFF2.out]; exact ⟨hb5, _, _, rfl, hc6, bread_turn HBR6.out hT5 HNEW.out hl6⟩)
            · have HE1 := Lib.hid (show F.2 = bs by rw [HFF2.out, if_pos hbs])
              have hbs' : ((bs : Int) != 0) = true := by rw [bne_iff_ne]; omega
              obtain ⟨r0, r1, r2, f0, f1, f2⟩ := six_c (HNR.out (w5) HB4.out)
              obtain ⟨z0, z1, z2, -⟩ := six_c (HNZ.out (w5) HB4.out)
              go_wp2_with fail
              have hh5 := set3 (HNR.out (w5) HB4.out) (.string ⟨#[]⟩) (.string ⟨#[]⟩) (.slice none 0 0)
              have hT5 := set3_turn (w5) w.heap.size (.string ⟨#[]⟩) (.string ⟨#[]⟩) (.slice none 0 0)
              have hb5 := below_turn (keepB' HB0.out HB4.out HB0.out.size) hT5 (Nat.le_refl _)
              generalize hW5 : (((w5).setCell ⟨w.heap.size, 0, none⟩ (.string ⟨#[]⟩)).setCell ⟨w.heap.size, 1, none⟩ (.string ⟨#[]⟩)).setCell ⟨w.heap.size, 2, none⟩ (.slice none 0 0) = W5 at hh5 hT5 hb5 ⊢
              obtain ⟨m0, m1, m2, -⟩ := six_c hh5
              exact bodyPost_ret (v := .tuple #[.agg #[.string ⟨#[]⟩, .string ⟨#[]⟩, .slice none 0 0], .int .i64 (bs : Int)]) (by simp [results, Tryz.results23, go_sem, m0, m1, m2]) rfl (rq_err HE1.out hbs hb5 rfl)
          · have HE1 := Lib.hid (show F.2 = fs by rw [HFF2.out, if_pos hfs])
            have hfs' : ((fs : Int) != 0) = true := by rw [bne_iff_ne]; omega
            obtain ⟨r0, r1, r2, f0, f1, f2⟩ := six_c (HNR.out (w4) HB4.out)
            obtain ⟨z0, z1, z2, -⟩ := six_c (HNZ.out (w4) HB4.out)
            go_wp2_with fail
            have hh5 := set3 (HNR.out (w4) HB4.out) (.string ⟨#[]⟩) (.string ⟨#[]⟩) (.slice none 0 0)
            have hT5 := set3_turn (w4) w.heap.size (.string ⟨#[]⟩) (.string ⟨#[]⟩) (.slice none 0 0)
            have hb5 := below_turn (keepB' HB0.out HB4.out HB0.out.size) hT5 (Nat.le_refl _)
            generalize hW5 : (((w4).setCell ⟨w.heap.size, 0, none⟩ (.string ⟨#[]⟩)).setCell ⟨w.heap.size, 1, none⟩ (.string ⟨#[]⟩)).setCell ⟨w.heap.size, 2, none⟩ (.slice none 0 0) = W5 at hh5 hT5 hb5 ⊢
            obtain ⟨m0, m1, m2, -⟩ := six_c hh5
            exact bodyPost_ret (v := .tuple #[.agg #[.string ⟨#[]⟩, .string ⟨#[]⟩, .slice none 0 0], .int .i64 (fs : Int)]) (by simp [results, Tryz.results23, go_sem, m0, m1, m2]) rfl (rq_err HE1.out hfs hb5 rfl)
    · have HRX := HRT.out
      rw [show (f :: l).tail = l from rfl] at HRX
      rw [show n - 1 = l.length by have := HN1.out; omega]
      have HDC := Lib.hid (heads_calls l (some ⟨g, 1, none⟩) (l.length) (l.length) w2 HRX (by have := HN1.out; omega) (by have := HN1.out; omega) (fun x hx => by have := HPL.out x (by simp [hx]); omega) (HM.out w2 HB2.out))
      refine HDC.out.mono ?_
      intro e w3 hhs
      have hb3 := hhs.1
      have HB3 := Lib.hid (keepB HB2.out hb3)
      have hres := hhs.2
      clear hhs HDC hb3
      by_cases h16 : 16 < l.length
      · rw [if_pos h16] at hres HFF
        subst hres
        have HE1 := Lib.hid (show F.2 = 431 by rw [HFF.out])
        clear HFF
        obtain ⟨r0, r1, r2, f0, f1, f2⟩ := six_c (HNR.out (w3) HB3.out)
        obtain ⟨z0, z1, z2, -⟩ := six_c (HNZ.out (w3) HB3.out)
        go_wp2_with fail
        have hh5 := set3 (HNR.out (w3) HB3.out) (.string ⟨#[]⟩) (.string ⟨#[]⟩) (.slice none 0 0)
        have hT5 := set3_turn (w3) w.heap.size (.string ⟨#[]⟩) (.string ⟨#[]⟩) (.slice none 0 0)
        have hb5 := below_turn (keepB' HB0.out HB3.out HB0.out.size) hT5 (Nat.le_refl _)
        generalize hW5 : (((w3).setCell ⟨w.heap.size, 0, none⟩ (.string ⟨#[]⟩)).setCell ⟨w.heap.size, 1, none⟩ (.string ⟨#[]⟩)).setCell ⟨w.heap.size, 2, none⟩ (.slice none 0 0) = W5 at hh5 hT5 hb5 ⊢
        obtain ⟨m0, m1, m2, -⟩ := six_c hh5
        exact bodyPost_ret (v := .tuple #[.agg #[.string ⟨#[]⟩, .string ⟨#[]⟩, .slice none 0 0], .int .i64 431]) (by simp [results, Tryz.results23, go_sem, m0, m1, m2]) rfl (rq_err HE1.out (by decide) hb5 rfl)
      · rw [if_neg h16] at hres HFF
        cases hds : hdsF l with
        | none =>
          rw [hds] at hres HFF
          have hres' : e = .returned (.tuple #[.map none, .int .i64 400]) := hres
          subst hres'
          have HE1 := Lib.hid (show F.2 = 400 by rw [HFF.out])
          clear HFF hres
          obtain ⟨r0, r1, r2, f0, f1, f2⟩ := six_c (HNR.out (w3) HB3.out)
          obtain ⟨z0, z1, z2, -⟩ := six_c (HNZ.out (w3) HB3.out)
          go_wp2_with fail
          have hh5 := set3 (HNR.out (w3) HB3.out) (.string ⟨#[]⟩) (.string ⟨#[]⟩) (.slice none 0 0)
          have hT5 := set3_turn (w3) w.heap.size (.string ⟨#[]⟩) (.string ⟨#[]⟩) (.slice none 0 0)
          have hb5 := below_turn (keepB' HB0.out HB3.out HB0.out.size) hT5 (Nat.le_refl _)
          generalize hW5 : (((w3).setCell ⟨w.heap.size, 0, none⟩ (.string ⟨#[]⟩)).setCell ⟨w.heap.size, 1, none⟩ (.string ⟨#[]⟩)).setCell ⟨w.heap.size, 2, none⟩ (.slice none 0 0) = W5 at hh5 hT5 hb5 ⊢
          obtain ⟨m0, m1, m2, -⟩ := six_c hh5
          exact bodyPost_ret (v := .tuple #[.agg #[.string ⟨#[]⟩, .string ⟨#[]⟩, .slice none 0 0], .int .i64 400]) (by simp [results, Tryz.results23, go_sem, m0, m1, m2]) rfl (rq_err HE1.out (by decide) hb5 rfl)
        | some hs =>
          have hvl := hds_val hds (fun x hx => show x.length ≤ 1000000 by have := HPL.out x (by simp [hx]); omega)
          have hhl := hds_len hds
          rw [hds] at hres HFF
          obtain ⟨mb, rfl, hMS⟩ := hres
          have HFC2 := Lib.hid (framed_calls hs w2.heap.size mb body w3 hMS (by omega) (by have := HN1.out; omega) hvl (HT.out w3 HB3.out) (HE.out w3 HB3.out))
          obtain ⟨fs, hfs⟩ : ∃ x, frF Nu.parseF hs body.length = x := ⟨_, rfl⟩
          have HFF2 := Lib.hid (show F = if frF Nu.parseF hs body.length ≠ 0 then (noR, frF Nu.parseF hs body.length) else if (beF (valsF hs kAuth)).2 ≠ 0 then (noR, (beF (valsF hs kAuth)).2) else (⟨path, (beF (valsF hs kAuth)).1, body⟩, 0) from HFF.out)
          rw [hfs] at HFC2 HFF2
          have HMS := Lib.hid hMS
          have HVL := Lib.hid hvl
          clear hfs hvl hMS HFF hds
          go_wp2_with fail
          refine HFC2.out.mono ?_
          rintro e w4 ⟨rfl, hb4⟩
          have HB4 := Lib.hid (keepB HB3.out hb4)
          have hM4 := HMS.out.below hb4
          clear hb4 HFC2 HMS
          by_cases hfs : fs = 0
          · subst hfs
            rw [if_neg (by simp)] at HFF2
            obtain ⟨A5, c5, hk5, hc5, hr5⟩ := hM4.look kAuth (by decide)
            have hk5' : (Instr.lookup 65 (.map (some mb)) (.string ⟨#[97, 117, 116, 104, 111, 114, 105, 122, 97, 116, 105, 111, 110]⟩) false).run Tryz.prog w4 = .ok (.slice A5 (valsF hs kAuth).length c5) w4 := hk5
            have hvn := vals_len hs kAuth
            have HBC := Lib.hid (bearer_calls (valsF hs kAuth) A5 (valsF hs kAuth).length c5 w4 rfl hr5 (fun x hx => by
              obtain ⟨d, hd, e⟩ := vals_mem hx
              rw [← e]; exact HVL.out d hd) (by have := HN1.out; omega))
            clear hk5 hr5 hM4
            generalize (valsF hs kAuth).length = n5 at *
            generalize beF (valsF hs kAuth) = be at *
            obtain ⟨tk, bs⟩ := be
            rw [show ((tk, bs) : Bs × Nat).1 = tk from rfl, show ((tk, bs) : Bs × Nat).2 = bs from rfl] at *
            go_wp2_with fail
            refine HBC.out.mono ?_
            rintro e w5 ⟨rfl, rfl⟩
            by_cases hbs : bs = 0
            · subst hbs
              rw [if_neg (by simp)] at HFF2
              obtain ⟨c6, w6, hcv, hc6, hrow6, hb6⟩ := conv_row w5 body
              have HB6 := Lib.hid (keepB HB4.out hb6)
              have hg6 := HB4.out.size
              have HBR6 := Lib.hid (hrow6.bread (by omega))
              have hl6 := hrow6.lt
              have HNEW := Lib.hid (show w5.heap.size ≠ w.heap.size by have := HB4.out.size; omega)
              clear hrow6 hb6
              obtain ⟨r0, r1, r2, f0, f1, f2⟩ := six_c (HNR.out (w6) HB6.out)
              go_wp2_with fail
              have hh5 := set3 (HNR.out (w6) HB6.out) (vs path) (vs tk) (.slice (some ⟨w5.heap.size, 0, none⟩) body.length c6)
              have hT5 := set3_turn (w6) w.heap.size (vs path) (vs tk) (.slice (some ⟨w5.heap.size, 0, none⟩) body.length c6)
              have hb5 := below_turn (keepB' HB0.out HB6.out HB0.out.size) hT5 (Nat.le_refl _)
              generalize hW5 : (((w6).setCell ⟨w.heap.size, 0, none⟩ (vs path)).setCell ⟨w.heap.size, 1, none⟩ (vs tk)).setCell ⟨w.heap.size, 2, none⟩ (.slice (some ⟨w5.heap.size, 0, none⟩) body.length c6) = W5 at hh5 hT5 hb5 ⊢
              obtain ⟨m0, m1, m2, -⟩ := six_c hh5
              exact bodyPost_ret (v := .tuple #[.agg #[vs path, vs tk, .slice (some ⟨w5.heap.size, 0, none⟩) body.length c6], .int .i64 0]) (by simp [results, Tryz.results23, go_sem, m0, m1, m2]) rfl (by rw [HFF2.out]; exact ⟨hb5, _, _, rfl, hc6, bread_turn HBR6.out hT5 HNEW.out hl6⟩)
            · have HE1 := Lib.hid (show F.2 = bs by rw [HFF2.out, if_pos hbs])
              have hbs' : ((bs : Int) != 0) = true := by rw [bne_iff_ne]; omega
              obtain ⟨r0, r1, r2, f0, f1, f2⟩ := six_c (HNR.out (w5) HB4.out)
              obtain ⟨z0, z1, z2, -⟩ := six_c (HNZ.out (w5) HB4.out)
              go_wp2_with fail
              have hh5 := set3 (HNR.out (w5) HB4.out) (.string ⟨#[]⟩) (.string ⟨#[]⟩) (.slice none 0 0)
              have hT5 := set3_turn (w5) w.heap.size (.string ⟨#[]⟩) (.string ⟨#[]⟩) (.slice none 0 0)
              have hb5 := below_turn (keepB' HB0.out HB4.out HB0.out.size) hT5 (Nat.le_refl _)
              generalize hW5 : (((w5).setCell ⟨w.heap.size, 0, none⟩ (.string ⟨#[]⟩)).setCell ⟨w.heap.size, 1, none⟩ (.string ⟨#[]⟩)).setCell ⟨w.heap.size, 2, none⟩ (.slice none 0 0) = W5 at hh5 hT5 hb5 ⊢
              obtain ⟨m0, m1, m2, -⟩ := six_c hh5
              exact bodyPost_ret (v := .tuple #[.agg #[.string ⟨#[]⟩, .string ⟨#[]⟩, .slice none 0 0], .int .i64 (bs : Int)]) (by simp [results, Tryz.results23, go_sem, m0, m1, m2]) rfl (rq_err HE1.out hbs hb5 rfl)
          · have HE1 := Lib.hid (show F.2 = fs by rw [HFF2.out, if_pos hfs])
            have hfs' : ((fs : Int) != 0) = true := by rw [bne_iff_ne]; omega
            obtain ⟨r0, r1, r2, f0, f1, f2⟩ := six_c (HNR.out (w4) HB4.out)
            obtain ⟨z0, z1, z2, -⟩ := six_c (HNZ.out (w4) HB4.out)
            go_wp2_with fail
            have hh5 := set3 (HNR.out (w4) HB4.out) (.string ⟨#[]⟩) (.string ⟨#[]⟩) (.slice none 0 0)
            have hT5 := set3_turn (w4) w.heap.size (.string ⟨#[]⟩) (.string ⟨#[]⟩) (.slice none 0 0)
            have hb5 := below_turn (keepB' HB0.out HB4.out HB0.out.size) hT5 (Nat.le_refl _)
            generalize hW5 : (((w4).setCell ⟨w.heap.size, 0, none⟩ (.string ⟨#[]⟩)).setCell ⟨w.heap.size, 1, none⟩ (.string ⟨#[]⟩)).setCell ⟨w.heap.size, 2, none⟩ (.slice none 0 0) = W5 at hh5 hT5 hb5 ⊢
            obtain ⟨m0, m1, m2, -⟩ := six_c hh5
            exact bodyPost_ret (v := .tuple #[.agg #[.string ⟨#[]⟩, .string ⟨#[]⟩, .slice none 0 0], .int .i64 (fs : Int)]) (by simp [results, Tryz.results23, go_sem, m0, m1, m2]) rfl (rq_err HE1.out hfs hb5 rfl)
  · have HE1 := Lib.hid (show F.2 = st by rw [HFF.out, if_pos hst])
    have hst' : ((st : Int) != 0) = true := by rw [bne_iff_ne]; omega
    obtain ⟨r0, r1, r2, f0, f1, f2⟩ := six_c (HNR.out (w2) HB2.out)
    obtain ⟨z0, z1, z2, -⟩ := six_c (HNZ.out (w2) HB2.out)
    go_wp2_with fail
    have hh5 := set3 (HNR.out (w2) HB2.out) (.string ⟨#[]⟩) (.string ⟨#[]⟩) (.slice none 0 0)
    have hT5 := set3_turn (w2) w.heap.size (.string ⟨#[]⟩) (.string ⟨#[]⟩) (.slice none 0 0)
    have hb5 := below_turn (keepB' HB0.out HB2.out HB0.out.size) hT5 (Nat.le_refl _)
    generalize hW5 : (((w2).setCell ⟨w.heap.size, 0, none⟩ (.string ⟨#[]⟩)).setCell ⟨w.heap.size, 1, none⟩ (.string ⟨#[]⟩)).setCell ⟨w.heap.size, 2, none⟩ (.slice none 0 0) = W5 at hh5 hT5 hb5 ⊢
    obtain ⟨m0, m1, m2, -⟩ := six_c hh5
    exact bodyPost_ret (v := .tuple #[.agg #[.string ⟨#[]⟩, .string ⟨#[]⟩, .slice none 0 0], .int .i64 (st : Int)]) (by simp [results, Tryz.results23, go_sem, m0, m1, m2]) rfl (rq_err HE1.out hst hb5 rfl)
end Go.Proofs.YtomancadpdccaaaGreatDoor.Ht

/-
  The document's Parse: the walk.
-/
import Derived.Test.YtgmlcnikphbiiaaDoorLangZ12
namespace Go.Proofs.YtgmlcnikphbiiaaDoor.L
open Go.RowKit Go.Proofs.YtgmlcnikphbiiaaDoor.B Go.Proofs.YtgmlcnikphbiiaaDoor.S10 Go.Proofs.YtgmlcnikphbiiaaDoor.Nm
open Go.Proofs.YtgmlcnikphbiiaaDoor.C (QRow Turn wpList_append_q)
set_option linter.unusedVariables false
set_option linter.unusedSimpArgs false

theorem res10 {w : World} {p q : Nat} {v a b c : Value} (hp : w.heap[p]? = some (.cells #[v] 25 (0, 0))) (hq : w.heap[q]? = some (.cells #[a, b, c] 28 (0, 0))) (tmps : Array Value) (h2 : tmps.getD 2 undef = .pointer (some ⟨p, 0, none⟩)) (h3 : tmps.getD 3 undef = .pointer (some ⟨q, 0, none⟩)) :
    (results Tryd.f10 tmps).run Tryd.prog w = .ok (.tuple #[.agg #[v], .agg #[a, b, c]]) w := by
  have p0 := cells_of hp 0 v rfl
  obtain ⟨q0, q1, q2⟩ := three_of hq
  have h2' : tmps[2]?.getD undef = .pointer (some ⟨p, 0, none⟩) := by simpa using h2
  have h3' : tmps[3]?.getD undef = .pointer (some ⟨q, 0, none⟩) := by simpa using h3
  simp [results, Tryd.results10, go_sem, h2', h3', p0, q0, q1, q2]
def kOf : Except Dg (List Tk) → Nat
  | .error _ => 1
  | .ok L => L.length + 2
def parseOf : R (List Ty) → Except Dg (List Ty)
  | .error d => .error d
  | .ok (ts, _) => .ok ts
theorem parseP_short {text : Bs} (h : ¬ 4096 < text.length) : parseP text = parseOf (schemaS (tokens text 1 1)) := by
  unfold parseP
  rw [if_neg h]
  generalize schemaS (tokens text 1 1) = q
  cases q <;> rfl
/-- the reader at its start. -/
theorem read_start {w2 : World} {text : Bs} (ht : text.length ≤ 4096) {A : Option Addr} {c : Nat} (hown : OwnL w2 67 3 TkR (.slice A (tokens text 1 1).length c) (tokens text 1 1)) :
    St ((w2.alloc (.cells (rdCells A (tokens text 1 1).length c 0 0 0 0 0) 62)).alloc (.cells #[.slice none 0 0] 25)) w2.heap.size 0 (.ok (tokens text 1 1)) := by
  have hlen := tokens_len text 1 1
  obtain ⟨hf, hm⟩ := fin_tokens text.length text 1 1 (Nat.le_refl _)
  have hs : (w2.alloc (.cells (rdCells A (tokens text 1 1).length c 0 0 0 0 0) 62)).heap.size = w2.heap.size + 1 := by simp
  have hpos : 0 < (tokens text 1 1).length := by
    cases hx : tokens text 1 1 with
    | nil => rw [hx] at hf; exact hf.elim
    | cons t l => simp
  have hsl : SlV w2 (fun b => b < w2.heap.size) 3 TkR (tokens text 1 1) A (tokens text 1 1).length := hown.read (by decide) (fun g hg => hown.block_lt hg)
  refine ⟨tokens text 1 1, 0, ⟨A, c, (alloc_old _ (by omega)).trans (heap_alloc_new w2 _), ?_, hpos, by omega, fun t h => by have := hm t h; omega⟩, rfl, hf⟩
  exact hsl.keep (by decide) (fun b hb _ => hb) (fun a v _ hv => cellAlloc (cellAlloc hv _) _) (fun _ _ h => h)
theorem ssr_start (w2 : World) (cs : Array Value) : SSR w2 [] none 0 ((w2.alloc (.cells cs 62)).alloc (.cells #[.slice none 0 0] 25)) := by
  have hs : (w2.alloc (.cells cs 62)).heap.size = w2.heap.size + 1 := by simp
  have h2 := heap_alloc_new (w2.alloc (.cells cs 62)) (.cells #[.slice none 0 0] 25)
  rw [hs] at h2
  exact ⟨((Below.refl _ w2).alloc (Nat.le_refl _) _).alloc (by omega) _, h2, OwnL.nil _ _ _ _, fun g hg => by cases hg⟩
theorem rfin_ok {w w2 V : World} {text : Bs} {acc : List Ty} {A : Option Addr} {c : Nat} (hs : w.heap.size + 2 ≤ w2.heap.size) (hB : Below w.heap.size w w2) (hss : SSR w2 acc A c V) (hp : V.heap[w.heap.size]? = some (.cells #[.slice none 0 0] 25 (0, 0))) (hq : V.heap[w.heap.size + 1]? = some (.cells #[.int .i64 0, .int .i64 0, .int .i64 0] 28 (0, 0))) (hP : parseP text = .ok acc) :
    ∀ W, W = ((((V.setCell ⟨w.heap.size, 0, none⟩ (.slice A acc.length c)).setCell ⟨w.heap.size + 1, 0, none⟩ (.int .i64 0)).setCell ⟨w.heap.size + 1, 1, none⟩ (.int .i64 0)).setCell ⟨w.heap.size + 1, 2, none⟩ (.int .i64 0)) →
    W.heap[w.heap.size]? = some (.cells #[.slice A acc.length c] 25 (0, 0)) ∧ W.heap[w.heap.size + 1]? = some (.cells #[.int .i64 0, .int .i64 0, .int .i64 0] 28 (0, 0)) ∧
      PaRet w (parseP text) (.returned (.tuple #[.agg #[.slice A acc.length c], .agg #[.int .i64 0, .int .i64 0, .int .i64 0]])) W := by
  rintro W rfl
  obtain ⟨e1, e2, hT⟩ := store_pq hp hq (by omega) (.slice A acc.length c) (.int .i64 0) (.int .i64 0) (.int .i64 0)
  have hbv := below_then hB hB.size hss.bel
  refine ⟨e1, e2, ?_⟩
  rw [hP]
  refine ⟨hbv.trans (Turn.below hT hbv.size (fun k hk e => by omega)), _, rfl, A, acc.length, c, rfl, ?_⟩
  have hV : SlV V (fun b => w2.heap.size ≤ b) 2 (TyR V (fun b => w2.heap.size + 2 ≤ b ∧ own A acc.length c ≠ some b)) acc A acc.length :=
    hss.ts.read (by decide) (fun g hg => by have := hss.g1 g hg; omega)
  exact hV.keep (by decide) (fun b hb _ => by omega) (turn_cell hT (fun b hb _ e => by omega)) (fun y ys hy => hy.turn hT (fun b hb _ => ⟨fun e => by omega, by omega⟩))
theorem rfin_err {w w2 V : World} {text : Bs} {d : Dg} (hs : w.heap.size + 2 ≤ w2.heap.size) (hB : Below w.heap.size w w2) (hbv : Below w2.heap.size w2 V) (hp : V.heap[w.heap.size]? = some (.cells #[.slice none 0 0] 25 (0, 0))) (hq : V.heap[w.heap.size + 1]? = some (.cells #[.int .i64 0, .int .i64 0, .int .i64 0] 28 (0, 0))) (hP : parseP text = .error d) :
    ∀ W, W = ((((V.setCell ⟨w.heap.size, 0, none⟩ (.slice none 0 0)).setCell ⟨w.heap.size + 1, 0, none⟩ (.int .i64 d.line)).setCell ⟨w.heap.size + 1, 1, none⟩ (.int .i64 d.col)).setCell ⟨w.heap.size + 1, 2, none⟩ (.int .i64 d.e)).drew →
    W.heap[w.heap.size]? = some (.cells #[.slice none 0 0] 25 (0, 0)) ∧ W.heap[w.heap.size + 1]? = some (.cells #[.int .i64 d.line, .int .i64 d.col, .int .i64 d.e] 28 (0, 0)) ∧
      PaRet w (parseP text) (.returned (.tuple #[.agg #[.slice none 0 0], .agg #[.int .i64 d.line, .int .i64 d.col, .int .i64 d.e]])) W := by
  rintro W rfl
  obtain ⟨e1, e2, hT⟩ := store_pq hp hq (by omega) (.slice none 0 0) (.int .i64 d.line) (.int .i64 d.col) (.int .i64 d.e)
  have hbv := below_then hB hB.size hbv
  refine ⟨e1, e2, ?_⟩
  rw [hP]
  exact ⟨below_drewN (hbv.trans (Turn.below hT hbv.size (fun k hk e => by omega))) 1, rfl⟩
theorem RE.cells {w : World} {rb : Nat} {op : Int} {d : Dg} (h : RE w rb op d) : w.cell? ⟨rb, 3, none⟩ = some (.int .i64 d.line) ∧ w.cell? ⟨rb, 4, none⟩ = some (.int .i64 d.col) ∧ w.cell? ⟨rb, 5, none⟩ = some (.int .i64 d.e) := by
  obtain ⟨h0, TL, at_, op', hd, -⟩ := h
  obtain ⟨A9, c9, hg, -⟩ := hd
  obtain ⟨-, -, -, g3, g4, g5, -⟩ := six_of hg
  exact ⟨g3, g4, g5⟩
theorem rend_err {text : Bs} {L0 : List Tk} {tot : R (List Ty)} {d : Dg} (hlong : parseP text = parseOf (schemaS L0)) (h2 : schemaS L0 = fin3 tot) (h : fin3 tot = .error d) : parseP text = .error d := by rw [hlong, h2, h]; rfl
theorem rend_ok {text : Bs} {L0 : List Tk} {tot : R (List Ty)} {ts : List Ty} {l : List Tk} (hlong : parseP text = parseOf (schemaS L0)) (h2 : schemaS L0 = fin3 tot) (h : fin3 tot = .ok (ts, l)) : parseP text = .ok ts := by rw [hlong, h2, h]; rfl
set_option maxRecDepth 100000 in
set_option maxHeartbeats 8000000 in
theorem rParse_calls (text : Bs) (w : World) (hl : text.length ≤ 100000) : Calls Tryd.prog 10 #[vs text] w (PaRet w (parseP text)) := by
  have hsz := sz text
  by_cases hlong : 4096 < text.length
  · have HS := Lib.hid (show parseP text = .error ⟨1, 1, 2⟩ by unfold parseP; rw [if_pos hlong])
    go_enter Tryd.func10, Tryd.ntmps10
    go_wp2
    have h1 := heap_alloc_new w (.cells #[.slice none 0 0] 25)
    have h2 := heap_alloc_new (w.alloc (.cells #[.slice none 0 0] 25)) (.cells #[.int .i64 1, .int .i64 1, .int .i64 2] 28)
    have hs : (w.alloc (.cells #[.slice none 0 0] 25)).heap.size = w.heap.size + 1 := by simp
    rw [hs] at h2
    refine bodyPost_ret (res10 ((alloc_old _ (by omega)).trans h1) h2 _ rfl rfl) rfl ?_
    rw [HS.out]
    exact ⟨((Below.refl _ w).alloc (Nat.le_refl _) _).alloc (by omega) _, rfl⟩
  · have HS := Lib.hid (parseP_short hlong)
    obtain ⟨i0, hi, hz0, hz1, hz2⟩ := info_parts info48
    have HI := Lib.hid hi
    have HZ0 := Lib.hid hz0
    have HZ1 := Lib.hid hz1
    have HZ2 := Lib.hid hz2
    clear hi hz0 hz1 hz2
    obtain ⟨j0, hi, hz0, hz1, hz2⟩ := info_parts info35
    have JI := Lib.hid hi
    have JZ0 := Lib.hid hz0
    have JZ1 := Lib.hid hz1
    have JZ2 := Lib.hid hz2
    clear hi hz0 hz1 hz2
    go_enter Tryd.func10, Tryd.ntmps10
    go_wp2_with fail
    have h1 := heap_alloc_new w (.cells #[.slice none 0 0] 25)
    have h2 := heap_alloc_new (w.alloc (.cells #[.slice none 0 0] 25)) (.cells #[.int .i64 0, .int .i64 0, .int .i64 0] 28)
    have hs : (w.alloc (.cells #[.slice none 0 0] 25)).heap.size = w.heap.size + 1 := by simp
    rw [hs] at h2
    have hs2 : ((w.alloc (.cells #[.slice none 0 0] 25)).alloc (.cells #[.int .i64 0, .int .i64 0, .int .i64 0] 28)).heap.size = w.heap.size + 1 + 1 := by simp
    have h1' := (alloc_old (.cells #[.int .i64 0, .int .i64 0, .int .i64 0] 28) (by omega : w.heap.size < (w.alloc (.cells #[.slice none 0 0] 25)).heap.size)).trans h1
    have hB : Below w.heap.size w ((w.alloc (.cells #[.slice none 0 0] 25)).alloc (.cells #[.int .i64 0, .int .i64 0, .int .i64 0] 28)) := ((Below.refl _ w).alloc (Nat.le_refl _) _).alloc (by omega) _
    generalize (w.alloc (.cells #[.slice none 0 0] 25)).alloc (.cells #[.int .i64 0, .int .i64 0, .int .i64 0] 28) = V at *
    refine (Tokens_calls text (by omega) V).mono ?_
    rintro e w2 ⟨A0, c0, rfl, hb2, hown, -⟩
    have HS0 := Lib.hid (read_start (by omega) hown)
    have hp2 := (hb2.block w.heap.size (by omega)).trans h1'
    have hq2 := (hb2.block (w.heap.size + 1) (by omega)).trans h2
    have hsz2 : w.heap.size + 2 ≤ w2.heap.size := by have := hb2.size; omega
    have HB2 := Lib.hid (below_then hB hB.size hb2)
    have hkeep : ∀ W, Below w2.heap.size w2 W → W.heap[w.heap.size]? = some (.cells #[.slice none 0 0] 25 (0, 0)) ∧ W.heap[w.heap.size + 1]? = some (.cells #[.int .i64 0, .int .i64 0, .int .i64 0] 28 (0, 0)) := fun W hW => ⟨(hW.block _ (by omega)).trans hp2, (hW.block _ (by omega)).trans hq2⟩
    have HKEEP := Lib.hid hkeep
    have hlen0 := tokens_len text 1 1
    have HSCH := Lib.hid (show schemaS (tokens text 1 1) = fin3 (typesGo ((tokens text 1 1).length + 1) [] (tokens text 1 1)) from rfl)
    generalize tokens text 1 1 = L0 at *
    have HSS := Lib.hid (ssr_start w2 (rdCells A0 L0.length c0 0 0 0 0 0))
    clear h1 h2 hs hs2 h1' hB hb2 hown hp2 hq2 hkeep
    obtain ⟨tot, htot⟩ : ∃ tot, typesGo (L0.length + 1) [] L0 = tot := ⟨_, rfl⟩
    rw [htot] at HSCH
    have HTOT := Lib.hid htot
    have HO0 : Hid (OInv [] (.ok L0) tot) := Lib.hid ⟨(fun d h => by cases h), fun L h => by cases h; exact ⟨htot.symm, by simp; omega⟩, by simp⟩
    clear htot
    go_wp2_with fail
    go_loopg [] (L0.length + 2) (fun k wr => ∃ (acc : List Ty) (A : Option Addr) (c : Nat) (r : Except Dg (List Tk)), SSR w2 acc A c wr ∧ St wr w2.heap.size 0 r ∧ Hid (OInv acc r tot) ∧ k = kOf r)
    case atStart => exact ⟨[], none, 0, .ok L0, HSS.out, HS0.out, HO0, rfl⟩
    case round =>
      obtain ⟨acc, A, c, r, hss, hst, HO, hgk⟩ := hrel
      have HGK := Lib.hid hgk
      have HSS1 := Lib.hid hss
      have HST1 := Lib.hid hst
      clear hgk hss hst HSS HS0 HO0
      go_wp2_with fail
      refine (is_any r HST1.out _ sType rfl (by simp) (by simp)).mono ?_
      rintro e w3 ⟨rfl, hS3, hA3⟩
      have HSS3 := Lib.hid (HSS1.out.turn hA3 (fun b hb => hb))
      have HS3 := Lib.hid hS3
      clear hS3 hA3
      cases hb3 : (isR sType r).1 with
      | true =>
        obtain ⟨L, hrL, hbL, hr2⟩ := isR_true hb3
        subst hrL
        rw [hr2] at HS3
        have HBL := Lib.hid hbL
        clear hb3 hr2 hbL
        go_wp2_with fail
        refine (name_any _ HS3.out).mono ?_
        rintro e w4 ⟨s, rfl, hA4, hS4, hv4⟩
        have HV4 := Lib.hid hv4
        have HSS4 := Lib.hid (HSS3.out.turn hA4 (fun b hb => hb))
        have HS4 := Lib.hid hS4
        have hrb4 := hS4.lt
        have hsb4 := lt_of_heap HSS4.out.sb
        clear hA4 hS4 hv4
        have HRT4 := Lib.hid (HSS4.out.start s)
        obtain ⟨r1, hr1⟩ : ∃ r1, stp nameS (.ok (hasS sType L).2) = r1 := ⟨_, rfl⟩
        rw [hr1] at HS4
        have HR1 := Lib.hid hr1
        have hii : IInv [] r1 (totI r1) := ⟨fun d h => by rw [h]; rfl, fun L' h => ⟨by rw [h]; rfl, by rw [h] at HS4; have := RO.len (show RO w4 w2.heap.size 0 L' from HS4.out); simp; omega⟩, by simp⟩
        have HII := Lib.hid hii
        clear hr1 hii
        obtain ⟨ti, hti⟩ : ∃ ti, totI r1 = ti := ⟨_, rfl⟩
        have HTI := Lib.hid hti
        have HII' : Hid (IInv [] r1 ti) := Lib.hid (by rw [← hti]; exact HII.out)
        have HST4 := Lib.hid (HS4.out.alloc (.cells #[vs s, .string ⟨#[]⟩] 35))
        have HST5 : Hid (St (w4.alloc (.cells #[vs s, .slice none 0 0] 35)) w2.heap.size 0 r1) := Lib.hid (HS4.out.alloc _)
        clear hti HII HST4
        go_wp2_with fail
        generalize hbt : w4.heap.size = bt at *
        have HBT := Lib.hid hbt
        clear hbt
        go_loopg [] (kOf r1) (fun k wr => ∃ (acc2 : List Rl) (A2 : Option Addr) (c2 : Nat) (rr : Except Dg (List Tk)), RT w2 bt s acc A c acc2 A2 c2 wr ∧ St wr w2.heap.size 0 rr ∧ Hid (IInv acc2 rr ti) ∧ k = kOf rr)
        case atStart => exact ⟨[], none, 0, r1, HRT4.out, HST5.out, HII', rfl⟩
        case round =>
          clear HRT4 HST5 HII' HS4 HSS4 HSS3 HS3 HSS1 HST1
          obtain ⟨acc2, A2, c2, rr, hrt, hst, HI2, hgk2⟩ := hrel
          have HGK2 := Lib.hid hgk2
          have HRT := Lib.hid hrt
          have HST := Lib.hid hst
          have hwr := hst.lt
          clear hgk2 hrt hst
          go_wp2_with fail
          refine (rrel_any rr HST.out).mono ?_
          rintro e w5 ⟨o, hret, hA5, hS5, hv5, hn5⟩
          have hrt5 := HRT.out.turn hA5 (fun b hb => hb)
          cases o with
          | none =>
            have he : e = .returned (.tuple #[relVal zRel, .bool false]) := hret
            subst he
            have hfin := HI2.out.stop hv5
            have HFIN := Lib.hid hfin
            have hrt6 := hrt5.turn (S := fun _ => False) (Turn.alloc w5 (.cells #[.string ⟨#[]⟩, .slice none 0 0, .int .i64 0, .string ⟨#[]⟩, .string ⟨#[]⟩, .slice none 0 0] 48)) (fun b h => h.elim)
            have HST6 := Lib.hid (hS5.alloc (.cells #[.string ⟨#[]⟩, .slice none 0 0, .int .i64 0, .string ⟨#[]⟩, .string ⟨#[]⟩, .slice none 0 0] 48))
            have HRT6 := Lib.hid hrt6
            have hn : ∀ j u, [vs s, .slice A2 acc2.length c2][j]? = some u → ((w5.alloc (.cells #[.string ⟨#[]⟩, .slice none 0 0, .int .i64 0, .string ⟨#[]⟩, .string ⟨#[]⟩, .slice none 0 0] 48)).alloc (.cells #[vs s, .slice A2 acc2.length c2] 35)).cell? ((⟨w5.heap.size + 1, 0, none⟩ : Addr).add j) = some u := by
              have := cell_list_new (w5.alloc (.cells #[.string ⟨#[]⟩, .slice none 0 0, .int .i64 0, .string ⟨#[]⟩, .string ⟨#[]⟩, .slice none 0 0] 48)) [vs s, .slice A2 acc2.length c2] 35
              rw [show (w5.alloc (.cells #[.string ⟨#[]⟩, .slice none 0 0, .int .i64 0, .string ⟨#[]⟩, .string ⟨#[]⟩, .slice none 0 0] 48)).heap.size = w5.heap.size + 1 by simp] at this
              exact this
            have HN := Lib.hid hn
            obtain ⟨css, hc1, hc2, hc3⟩ := hrt6.ts
            have HQ := Lib.hid (hc2.kept (w' := (w5.alloc (.cells #[.string ⟨#[]⟩, .slice none 0 0, .int .i64 0, .string ⟨#[]⟩, .string ⟨#[]⟩, .slice none 0 0] 48)).alloc (.cells #[vs s, .slice A2 acc2.length c2] 35)) (fun g hg => alloc_old _ (hc2.block_lt hg)))
            have HC := Lib.hid (And.intro hc1 hc3)
            have t0 := cells_of hrt5.sb 0 (.slice A acc.length c) rfl
            obtain ⟨t1, t2, -⟩ := two_of hrt5.tb
            have l1 := lt_of_heap hrt5.sb
            have l2 := lt_of_heap hrt5.tb
            have haccl : acc.length ≤ 5000 := by
              have := (HO.out.2.1 L rfl).2
              omega
            clear hret hA5 hS5 hv5 hn5 hrt5 hfin hrt6 hn hc1 hc2 hc3
            go_wp2_with (at_builtin; go_loud (refine wpList_append_q rfl _ _ 23 rfl 35 j0 _ 2 40 Tryd.underlying23 JI.out JZ0.out JZ1.out JZ2.out rfl (by decide) _ acc.length _ rfl HQ.out ⟨w5.heap.size + 1, 0, none⟩ 1 1 [vs s, .slice A2 acc2.length c2] rfl rfl HN.out (by intro u hu; simp at hu; rcases hu with rfl | rfl <;> rfl) (by unfold maxLen; omega) (by omega) ?_))
            intro v6 w6 hq hg hbk
            obtain ⟨A', c', rfl⟩ := QRow.form hq
            obtain ⟨hsb6, hss6, hT6⟩ := HRT6.out.done HC.out.1 HC.out.2 hq hg (fun g h => by have := hbk g h; simpa using this)
            have HS6 : Hid (St (w6.setCell ⟨w2.heap.size + 1, 0, none⟩ (.slice A' (acc.length + 1) c')) w2.heap.size 0 (stp relS rr)) := Lib.hid (HST6.out.turn hT6 (fun b hb e => by
              rcases e with e | e
              · have := (HRT6.out.g1 _ e).1; omega
              · omega))
            have HSS6 := Lib.hid hss6
            have m0 := cells_of hsb6 0 (.slice A acc.length c) rfl
            have f0 := frz_of hsb6 0
            clear hq hg hbk hsb6 hss6 hT6 t0 t1 t2 l1 l2
            go_wp2
            have hO' : OInv (acc ++ [⟨s, acc2⟩]) (stp relS rr) tot := HO.out.next HBL.out HV4.out (by rw [HR1.out, HTI.out]; exact HFIN.out)
            go_roundg (kOf (stp relS rr))
            case measure =>
              rw [HGK.out]
              cases hq : stp relS rr with
              | error d => show 1 < L.length + 2; omega
              | ok l =>
                have h9 := HO.out.next HBL.out HV4.out (by rw [HR1.out, HTI.out]; exact HFIN.out)
                have hll : l.length < L.length := by
                  have hb := hasS_less HBL.out
                  have hr : ti = .ok (acc2, l) := HFIN.out.2 l hq
                  have h1 : r1 = stp nameS (.ok (hasS sType L).2) := HR1.out.symm
                  rw [← HTI.out] at hr
                  cases hn : nameS (hasS sType L).2 with
                  | error d => rw [stp_err hn] at h1; rw [h1] at hr; cases hr
                  | ok p =>
                    obtain ⟨a, l1⟩ := p
                    rw [stp_ok hn] at h1
                    rw [h1] at hr
                    have := less_name _ _ _ hn
                    have := relsOf_less _ _ _ _ _ (show relsOf (l1.length + 1) [] l1 = .ok (acc2, l) from hr)
                    omega
                show l.length + 2 < L.length + 2
                omega
            case rel => exact ⟨acc ++ [⟨s, acc2⟩], A', c', _, HSS6.out, HS6.out, Lib.hid hO', rfl⟩
          | some x =>
            obtain ⟨cs, he, hx⟩ := (show ∃ cs, e = .returned (.tuple #[relVal cs, .bool true]) ∧ RelR w5 (fun b => wr.heap.size ≤ b) x cs from hret)
            obtain ⟨A3, n3, c3, k3, a3, b3, A4, n4, c4, rfl, hx2⟩ := id hx
            have he' : e = .returned (.tuple #[.agg #[vs x.name, .slice A3 n3 c3, .int .i64 k3, vs a3, vs b3, .slice A4 n4 c4], .bool true]) := he
            subst he'
            have hne : ∀ d, rr ≠ .error d := fun d h => by have := hn5 d h; cases this
            have HIN := Lib.hid (HI2.out.next hne hv5)
            have hbtl := lt_of_heap HRT.out.tb
            have hrt6 := hrt5.turn (S := fun _ => False) (Turn.alloc w5 (.cells #[vs x.name, .slice A3 n3 c3, .int .i64 k3, vs a3, vs b3, .slice A4 n4 c4] 48)) (fun b h => h.elim)
            have HST6 := Lib.hid (hS5.alloc (.cells #[vs x.name, .slice A3 n3 c3, .int .i64 k3, vs a3, vs b3, .slice A4 n4 c4] 48))
            have HRT6 := Lib.hid hrt6
            have hx6 : RelR (w5.alloc (.cells #[vs x.name, .slice A3 n3 c3, .int .i64 k3, vs a3, vs b3, .slice A4 n4 c4] 48)) (TF w2 bt (own A acc.length c) (own A2 acc2.length c2)) x [vs x.name, .slice A3 n3 c3, .int .i64 k3, vs a3, vs b3, .slice A4 n4 c4] :=
              hx.turn (S := fun _ => False) (Turn.alloc _ _) (fun b hb hl => ⟨fun h => h, by
                have q1 : w2.heap.size + 2 ≤ wr.heap.size := by have := lt_of_heap HRT.out.sb; omega
                exact ⟨by omega, by omega, fun e => by have := HRT.out.ts.block_lt e; omega, fun e => by have := HRT.out.rs.block_lt e; omega⟩⟩)
            have HX6 := Lib.hid hx6
            have hn : ∀ j u, [vs x.name, .slice A3 n3 c3, .int .i64 k3, vs a3, vs b3, .slice A4 n4 c4][j]? = some u → ((w5.alloc (.cells #[vs x.name, .slice A3 n3 c3, .int .i64 k3, vs a3, vs b3, .slice A4 n4 c4] 48)).alloc (.cells #[vs x.name, .slice A3 n3 c3, .int .i64 k3, vs a3, vs b3, .slice A4 n4 c4] 48)).cell? ((⟨w5.heap.size + 1, 0, none⟩ : Addr).add j) = some u := by
              have := cell_list_new (w5.alloc (.cells #[vs x.name, .slice A3 n3 c3, .int .i64 k3, vs a3, vs b3, .slice A4 n4 c4] 48)) [vs x.name, .slice A3 n3 c3, .int .i64 k3, vs a3, vs b3, .slice A4 n4 c4] 48
              rw [show (w5.alloc (.cells #[vs x.name, .slice A3 n3 c3, .int .i64 k3, vs a3, vs b3, .slice A4 n4 c4] 48)).heap.size = w5.heap.size + 1 by simp] at this
              exact this
            have HN := Lib.hid hn
            obtain ⟨css, hc1, hc2, hc3⟩ := hrt6.rs
            have HQ := Lib.hid (hc2.kept (w' := (w5.alloc (.cells #[vs x.name, .slice A3 n3 c3, .int .i64 k3, vs a3, vs b3, .slice A4 n4 c4] 48)).alloc (.cells #[vs x.name, .slice A3 n3 c3, .int .i64 k3, vs a3, vs b3, .slice A4 n4 c4] 48)) (fun g hg => alloc_old _ (hc2.block_lt hg)))
            have HC := Lib.hid (And.intro hc1 hc3)
            obtain ⟨t1, t2, -⟩ := two_of hrt5.tb
            have l2 := lt_of_heap hrt5.tb
            have haccl : acc2.length ≤ 5000 := by
              cases rr with
              | error d => exact absurd rfl (hne d)
              | ok L9 => have := (HI2.out.2.1 L9 rfl).2; omega
            have HK2 : Hid (kOf (stp relS rr) < kOf rr) := Lib.hid (by
              cases rr with
              | error d => exact absurd rfl (hne d)
              | ok L9 =>
                cases hr : relS L9 with
                | error d => rw [stp_err hr]; show 1 < L9.length + 2; omega
                | ok p =>
                  obtain ⟨a, l⟩ := p
                  have := hv5 L9 a l rfl hr
                  subst this
                  have := less1_rel hr
                  rw [stp_ok hr]; show l.length + 2 < L9.length + 2; omega)
            clear hret he hx hx2 hA5 hS5 hv5 hn5 hrt5 hrt6 hn hc1 hc2 hc3 hne hx6 hbtl
            go_wp2_with (at_builtin; go_loud (refine wpList_append_q rfl _ _ 33 rfl 48 i0 _ 6 104 Tryd.underlying33 HI.out HZ0.out HZ1.out HZ2.out rfl (by decide) _ acc2.length _ rfl HQ.out ⟨w5.heap.size + 1, 0, none⟩ 1 1 [vs x.name, .slice A3 n3 c3, .int .i64 k3, vs a3, vs b3, .slice A4 n4 c4] rfl rfl HN.out (by intro u hu; simp at hu; rcases hu with rfl | rfl | rfl | rfl | rfl | rfl <;> rfl) (by unfold maxLen; omega) (by omega) ?_))
            intro v6 w6 hq hg hbk
            obtain ⟨A', c', rfl⟩ := QRow.form hq
            obtain ⟨htb6, hrt7, hT6⟩ := HRT6.out.push HX6.out rfl HC.out.1 HC.out.2 hq hg (fun g h => by have := hbk g h; simpa using this)
            have HS6 : Hid (St (w6.setCell ⟨bt, 1, none⟩ (.slice A' (acc2.length + 1) c')) w2.heap.size 0 (stp relS rr)) := Lib.hid (HST6.out.turn hT6 (fun b hb e => by
              rcases e with e | e
              · have := (HRT6.out.g2 _ e).1; omega
              · have := HRT6.out.ht; omega))
            have HRT7 := Lib.hid hrt7
            obtain ⟨m0, m1, f0, f1⟩ := two_of htb6
            clear hq hg hbk htb6 hrt7 hT6 t1 t2 l2
            go_wp2
            go_roundg (kOf (stp relS rr))
            case measure => rw [HGK2.out]; exact HK2.out
            case rel => exact ⟨acc2 ++ [x], A', c', _, HRT7.out, HS6.out, HIN, rfl⟩
      | false =>
        obtain ⟨hp3, hq3⟩ := HKEEP.out _ HSS3.out.bel
        cases r with
        | error d =>
          have hE : RE w3 w2.heap.size 0 d := HS3.out
          have HF := Lib.hid (rfin_err hsz2 HB2.out HSS3.out.bel hp3 hq3 (rend_err HS.out HSCH.out (show fin3 tot = .error d by rw [HO.out.1 d rfl]; rfl)))
          obtain ⟨e1, e2⟩ := hE.ne
          obtain ⟨c3, c4, c5⟩ := hE.cells
          have p0 := cells_of hp3 0 _ rfl
          obtain ⟨q0, q1, q2⟩ := three_of hq3
          have f0 := frz_of hp3 0
          have f1 := frz_of hq3 0
          have f2 := frz_of hq3 1
          have f3 := frz_of hq3 2
          have HB3 := Lib.hid hb3
          clear hE hp3 hq3 hb3
          go_wp2_with fail
          go_region_with (fail)
          all_goals
            obtain ⟨g1, g2, g3⟩ := HF.out _ rfl
            go_wp2
            exact bodyPost_ret (res10 g1 g2 _ rfl rfl) rfl g3
        | ok L =>
          have hb4 : (hasS sType L).1 = false := hb3
          have hP0 : RO w3 w2.heap.size 0 L := by
            have h9 : RO w3 w2.heap.size 0 (hasS sType L).2 := HS3.out
            rw [hasS_no hb4] at h9; exact h9
          have HT := Lib.hid (HO.out.stop hb4)
          obtain ⟨TL, at_, t, l, hd, rfl, ht, hdr, hf⟩ := hP0.open_
          obtain ⟨-, -, c5⟩ := hP0.cell
          have HD := Lib.hid hd
          have HTT := Lib.hid ht
          have HB3 := Lib.hid hb3
          have hfl := field67
          clear hb3 hb4 hP0 hd ht hdr hf hp3 hq3
          cases hsg : t.s == [] with
          | true =>
            have hsg' : (t.s != []) = false := by simp [bne, hsg]
            have HP := Lib.hid (rend_ok HS.out HSCH.out (show fin3 tot = .ok (acc, t :: l) by
              rw [HT.out]; show (if t.s == [] then _ else _) = _; rw [if_pos hsg]))
            go_wp2_with fail
            refine (next_open HD.out HTT.out).mono ?_
            rintro e4 w4 ⟨rfl, hb4⟩
            have hss4 := HSS3.out.turn (at_below (rb := w2.heap.size) hb4) (fun b hb => hb)
            obtain ⟨hp4, hq4⟩ := HKEEP.out _ hss4.bel
            have HF := Lib.hid (rfin_ok hsz2 HB2.out hss4 hp4 hq4 HP.out)
            have t0 := cells_of hss4.sb 0 _ rfl
            have c5' := HD.out.below hb4
            obtain ⟨A9, c9, hg9, -⟩ := c5'
            obtain ⟨-, -, -, g3, g4, g5, -⟩ := six_of hg9
            have p0 := cells_of hp4 0 _ rfl
            obtain ⟨q0, q1, q2⟩ := three_of hq4
            have f0 := frz_of hp4 0
            have f1 := frz_of hq4 0
            have f2 := frz_of hq4 1
            have f3 := frz_of hq4 2
            clear hss4 hp4 hq4 hb4 hg9
            go_wp2
            obtain ⟨g1, g2, g3⟩ := HF.out _ rfl
            exact bodyPost_ret (res10 g1 g2 _ rfl rfl) rfl g3
          | false =>
            have hsg' : (t.s != []) = true := by simp [bne, hsg]
            have HP := Lib.hid (rend_err HS.out HSCH.out (show fin3 tot = .error ⟨t.line, t.col, 8⟩ by
              rw [HT.out]; show (if t.s == [] then _ else _) = _; rw [if_neg (by simp [hsg])]; rfl))
            go_wp2_with fail
            refine (next_open HD.out HTT.out).mono ?_
            rintro e4 w4 ⟨rfl, hb4⟩
            have HSS4 := Lib.hid (HSS3.out.turn (at_below (rb := w2.heap.size) hb4) (fun b hb => hb))
            have HD4 := Lib.hid (HD.out.below hb4)
            clear hb4
            go_wp2_with fail
            refine (next_calls HD4.out HTT.out).mono ?_
            rintro e5 w5 ⟨rfl, hb5⟩
            have HSS5 := Lib.hid (HSS4.out.turn (at_below (rb := w2.heap.size) hb5) (fun b hb => hb))
            have HD5 := Lib.hid (HD4.out.below hb5)
            clear hb5
            go_wp2_with fail
            refine (fail_calls HD5.out t 8 (by decide)).mono ?_
            rintro e6 w6 ⟨rfl, hE6, hA6⟩
            have hss6 := HSS5.out.turn hA6 (fun b hb => hb)
            obtain ⟨hp6, hq6⟩ := HKEEP.out _ hss6.bel
            have HF := Lib.hid (rfin_err hsz2 HB2.out hss6.bel hp6 hq6 HP.out)
            obtain ⟨c3, c4, c5⟩ := hE6.cells
            have p0 := cells_of hp6 0 _ rfl
            obtain ⟨q0, q1, q2⟩ := three_of hq6
            have f0 := frz_of hp6 0
            have f1 := frz_of hq6 0
            have f2 := frz_of hq6 1
            have f3 := frz_of hq6 2
            clear hss6 hp6 hq6 hE6 hA6
            go_wp2_with fail
            go_region_with (fail)
            all_goals
              obtain ⟨g1, g2, g3⟩ := HF.out _ rfl
              go_wp2
              exact bodyPost_ret (res10 g1 g2 _ rfl rfl) rfl g3
end Go.Proofs.YtgmlcnikphbiiaaDoor.L

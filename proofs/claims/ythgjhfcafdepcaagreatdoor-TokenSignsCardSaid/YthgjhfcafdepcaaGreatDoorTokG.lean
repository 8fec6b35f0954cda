/-
  Tokens: Read, the program's.
-/
import Derived.Test.YthgjhfcafdepcaaGreatDoorTokF
namespace Go.Proofs.YthgjhfcafdepcaaGreatDoor.Tk
open Go.RowKit Go.Proofs.YthgjhfcafdepcaaGreatDoor.B Go.Proofs.YthgjhfcafdepcaaGreatDoor.S10
open Go.Proofs.YthgjhfcafdepcaaGreatDoor.M
open Go.Proofs.YthgjhfcafdepcaaGreatDoor.C (QRow Turn)
open Go.Proofs.YthgjhfcafdepcaaGreatDoor.Sh (macF macF_len RdB)
open Go.Proofs.YthgjhfcafdepcaaGreatDoor.S01 (hexF unhexF)
set_option linter.unusedVariables false
set_option linter.unusedSimpArgs false

theorem lastS_rng (s : Bs) : -1 ≤ lastS s ∧ lastS s < s.length := by
  unfold lastS
  have hs : (ba s).size = s.length := sz s
  rcases Lib.lastIndexByte_spec (ba s) 47 with ⟨h, _⟩ | ⟨i, hi, h, _⟩
  · rw [h]; omega
  · rw [h]; omega
theorem drew_cell (W : World) (a : Addr) : W.drew.cell? a = W.cell? a := rfl
theorem set5_keepD {V : World} {g b : Nat} (hne : ¬ b = g) (x0 x1 x2 x3 x4 : Value) (o : Nat) : (((((V.setCell ⟨g, 0, none⟩ x0).setCell ⟨g, 1, none⟩ x1).setCell ⟨g, 2, none⟩ x2).setCell ⟨g, 3, none⟩ x3).setCell ⟨g, 4, none⟩ x4).drew.cell? ⟨b, o, none⟩ = V.cell? ⟨b, o, none⟩ := (drew_cell _ _).trans (set5_keep hne x0 x1 x2 x3 x4 o)
theorem RdB.kept {w w' : World} {F : Nat → Prop} {A : Option Addr} {q : Bs} {sb : Nat} (h : RdB w F A q) (hT : Turn (fun k => k = sb) w w') (hF : ∀ b, F b → b ≠ sb) : RdB w' (fun _ => True) A q :=
  h.keep fun a v ha hv => ⟨trivial, turn_cell (F := F) hT (fun b hb _ => hF b hb) a v ha hv⟩
theorem RdB.drew {w : World} {F : Nat → Prop} {A : Option Addr} {q : Bs} (h : RdB w F A q) : RdB w.drew F A q := h
theorem readR_some {h x g : Bs} (hu : unhexF x = some g) : readR h x = if claimB h = true ∧ g.length = 32 then some (claimC h, h, g) else none := by unfold readR; rw [hu]
theorem readR_none {h x : Bs} (hu : unhexF x = none) : readR h x = none := by unfold readR; rw [hu]
def RdRet (w : World) (r : Option (Cl × Bs × Bs)) (e : Ending) (w' : World) : Prop :=
  Below w.heap.size w w' ∧ match r with
  | some (c, t, g) => ∃ A cp, e = .returned (.tuple #[clV c, vs t, .slice A 32 cp, .bool true]) ∧ g.length = 32 ∧ 32 ≤ cp ∧ RdB w' (fun _ => True) A g
  | none => e = .returned (.tuple #[clV noC, vs [], .slice none 0 0, .bool false])
set_option maxRecDepth 100000 in
set_option maxHeartbeats 4000000 in
theorem Read_calls (s : Bs) (hs : s.length ≤ 1000000) (w : World) (ht : Nu.Tab w) (he : Nu.Errs w) :
    Calls Tryz.prog 14 #[vs s] w (RdRet w (readP s)) := by
  have HT := Lib.hid ht
  have HE := Lib.hid he
  clear ht he
  have hsz := sz s
  have hrng := lastS_rng s
  have HLI := Lib.hid (fun W => Tryz.strings_LastIndexByte (ba s) 47 (by rw [hsz]; omega) W)
  obtain ⟨w0, hw0⟩ : ∃ w0, w.alloc (.cells (clC noC) 26) = w0 := ⟨_, rfl⟩
  have hs0 : w0.heap.size = w.heap.size + 1 := by rw [← hw0]; simp
  have HR0 := Lib.hid (show w0.heap[w.heap.size]? = some (.cells (clC noC) 26 (0, 0)) by rw [← hw0]; exact heap_alloc_new w _)
  have HB0 := Lib.hid (show Below w.heap.size w w0 by rw [← hw0]; exact (Below.refl _ w).alloc (Nat.le_refl _) _)
  have hw0' : w.alloc (.cells #[.string { data := #[] }, .string { data := #[] }, .string { data := #[] }, .string { data := #[] }, .int .i64 0] 26) = w0 := hw0
  clear hw0
  have HNO := Lib.hid (fun (V : World) (hb : Below w0.heap.size w0 V) => five_cells ((hb.block w.heap.size (by omega)).trans HR0.out))
  have HNR := Lib.hid (fun (V : World) (hb : Below w0.heap.size w0 V) => (hb.block w.heap.size (by omega)).trans HR0.out)
  go_enter Tryz.func14, Tryz.ntmps14
  go_wp2_with fail
  refine (HLI.out _).mono ?_
  rintro e' w1 ⟨rfl, hw1⟩
  rw [hw1]
  clear hw1
  have HBR := Lib.hid (Below.refl w0.heap.size w0)
  rw [show Lib.lastIndexByte (ba s) 47 = lastS s from rfl]
  by_cases hneg : lastS s < 0
  · have HP := Lib.hid (show readP s = none by unfold readP; rw [if_pos (Or.inl hneg)])
    obtain ⟨r0, r1, r2, r3, r4, f0, f1, f2, f3, f4⟩ := HNO.out w0 HBR.out
    go_wp2_with fail
    have hh5 := set5 (HNR.out w0 HBR.out) (.string ⟨#[]⟩) (.string ⟨#[]⟩) (.string ⟨#[]⟩) (.string ⟨#[]⟩) (.int .i64 0)
    have hb5 := Sh.below_turn (below_more HB0.out HBR.out) (set5_turn w0 w.heap.size (.string ⟨#[]⟩) (.string ⟨#[]⟩) (.string ⟨#[]⟩) (.string ⟨#[]⟩) (.int .i64 0)) (Nat.le_refl _)
    generalize hW5 : ((((w0.setCell ⟨w.heap.size, 0, none⟩ (.string ⟨#[]⟩)).setCell ⟨w.heap.size, 1, none⟩ (.string ⟨#[]⟩)).setCell ⟨w.heap.size, 2, none⟩ (.string ⟨#[]⟩)).setCell ⟨w.heap.size, 3, none⟩ (.string ⟨#[]⟩)).setCell ⟨w.heap.size, 4, none⟩ (.int .i64 0) = W5 at hh5 hb5 ⊢
    obtain ⟨m0, m1, m2, m3, m4, -⟩ := five_cells hh5
    exact bodyPost_ret (v := .tuple #[clV noC, vs [], .slice none 0 0, .bool false]) (by simp [results, Tryz.results14, go_sem, m0, m1, m2, m3, m4, noC]) rfl (by rw [HP.out]; exact ⟨hb5, rfl⟩)
  · by_cases hlong : 512 < s.length
    · have HP := Lib.hid (show readP s = none by unfold readP; rw [if_pos (Or.inr hlong)])
      have hlong' : (512 : Int) < (s.length : Int) := by omega
      obtain ⟨r0, r1, r2, r3, r4, f0, f1, f2, f3, f4⟩ := HNO.out w0 HBR.out
      go_wp2_with fail
      have hh5 := set5 (HNR.out w0 HBR.out) (.string ⟨#[]⟩) (.string ⟨#[]⟩) (.string ⟨#[]⟩) (.string ⟨#[]⟩) (.int .i64 0)
      have hb5 := Sh.below_turn (below_more HB0.out HBR.out) (set5_turn w0 w.heap.size (.string ⟨#[]⟩) (.string ⟨#[]⟩) (.string ⟨#[]⟩) (.string ⟨#[]⟩) (.int .i64 0)) (Nat.le_refl _)
      generalize hW5 : ((((w0.setCell ⟨w.heap.size, 0, none⟩ (.string ⟨#[]⟩)).setCell ⟨w.heap.size, 1, none⟩ (.string ⟨#[]⟩)).setCell ⟨w.heap.size, 2, none⟩ (.string ⟨#[]⟩)).setCell ⟨w.heap.size, 3, none⟩ (.string ⟨#[]⟩)).setCell ⟨w.heap.size, 4, none⟩ (.int .i64 0) = W5 at hh5 hb5 ⊢
      obtain ⟨m0, m1, m2, m3, m4, -⟩ := five_cells hh5
      exact bodyPost_ret (v := .tuple #[clV noC, vs [], .slice none 0 0, .bool false]) (by simp [results, Tryz.results14, go_sem, m0, m1, m2, m3, m4, noC]) rfl (by rw [HP.out]; exact ⟨hb5, rfl⟩)
    · obtain ⟨a, ha⟩ : ∃ a : Nat, lastS s = a := ⟨(lastS s).toNat, by omega⟩
      have ht1 : headT s = s.take a := by unfold headT; rw [ha]; rfl
      have ht2 : tailT s = s.drop (a + 1) := by unfold tailT; rw [ha]; rfl
      have HP := Lib.hid (show readP s = readR (s.take a) (s.drop (a + 1)) by unfold readP; rw [if_neg (by omega), ht1, ht2])
      have halt : a < s.length := by omega
      rw [ha]
      clear ht1 ht2
      have hx1 := ext_take s a
      have hx2 := ext_drop s (a + 1) s.length rfl
      have hi1 : (a : Int) ≤ (s.length : Int) := by omega
      have hi2 : (a : Int) + 1 ≤ (s.length : Int) := by omega
      have hi3 : ¬ (a : Int) < 0 := by omega
      have hi4 : ¬ (512 : Int) < (s.length : Int) := by omega
      obtain ⟨h, hh⟩ : ∃ h, s.take a = h := ⟨_, rfl⟩
      obtain ⟨x, hx⟩ : ∃ x, s.drop (a + 1) = x := ⟨_, rfl⟩
      have hhl : h.length ≤ 1000000 := by rw [← hh, List.length_take]; omega
      have hxl : x.length ≤ 1000000 := by rw [← hx, List.length_drop]; omega
      rw [hh] at HP hx1
      rw [hx] at HP hx2
      clear hh hx
      have HTW := Lib.hid (fun (V : World) (hb : Below w0.heap.size w0 V) => Nu.Tab.below HT.out (below_more HB0.out hb))
      have HEW := Lib.hid (fun (V : World) (hb : Below w0.heap.size w0 V) => Nu.Errs.below HE.out (below_more HB0.out hb))
      have HUN := Lib.hid (fun (V : World) => Nu.Unhex_calls (ba x) V (by rw [sz]; omega))
      go_wp2_with fail
      refine (claim_calls h hhl _ (HTW.out _ HBR.out) (HEW.out _ HBR.out)).mono ?_
      rintro e' w2 ⟨rfl, hb2⟩
      have HB2 := Lib.hid (below_more HBR.out hb2)
      obtain ⟨c, hc⟩ : ∃ c, claimC h = c := ⟨_, rfl⟩
      obtain ⟨b, hb⟩ : ∃ b, claimB h = b := ⟨_, rfl⟩
      have HRD := Lib.hid (And.intro hc hb)
      rw [hc, hb]
      obtain ⟨tn, k, i, key, ex⟩ := c
      obtain ⟨w3, hw3⟩ : ∃ w3, w2.alloc (.cells #[vs tn, vs k, vs i, vs key, .int .i64 ex] 26) = w3 := ⟨_, rfl⟩
      have HC3 := Lib.hid (show w3.heap[w2.heap.size]? = some (.cells #[vs tn, vs k, vs i, vs key, .int .i64 ex] 26 (0, 0)) by rw [← hw3]; exact heap_alloc_new w2 _)
      have HB3 := Lib.hid (show Below w0.heap.size w0 w3 by rw [← hw3]; exact HB2.out.alloc HB2.out.size _)
      have hl3 : w2.heap.size < w3.heap.size := by rw [← hw3]; simp
      have hsz2 := HB2.out.size
      clear hb2 hc hb
      go_wp2_with fail
      refine (HUN.out _).mono ?_
      rintro e' w4 ⟨hb4, hun⟩
      have HB4 := Lib.hid (below_more HB3.out hb4)
      have HC4 := Lib.hid ((hb4.block _ hl3).trans HC3.out)
      clear hb4
      rcases hun with ⟨v, g, hug, rfl, hown⟩ | ⟨hug, rfl⟩
      · have hRD := readR_some (h := h) (show unhexF x = some g from hug)
        rw [HRD.out.1, HRD.out.2] at hRD
        obtain ⟨A8, c8, rfl, hc8, hr8⟩ := Sh.BOwn.rd (F := fun bb => w3.heap.size ≤ bb) hown (fun b hb => hb)
        have HR8 := Lib.hid hr8
        obtain ⟨n, hn⟩ : ∃ n, g.length = n := ⟨_, rfl⟩
        rw [hn] at hc8 hRD ⊢
        have HN := Lib.hid hn
        have HRD := Lib.hid hRD
        clear hown hr8 hug hn hRD
        cases b with
        | false =>
          have HP := Lib.hid (show readP s = none by rw [HP.out, HRD.out, if_neg (by simp)])
          obtain ⟨r0, r1, r2, r3, r4, f0, f1, f2, f3, f4⟩ := HNO.out w4 HB4.out
          go_wp2_with fail
          have hh5 := set5 (HNR.out w4 HB4.out) (.string ⟨#[]⟩) (.string ⟨#[]⟩) (.string ⟨#[]⟩) (.string ⟨#[]⟩) (.int .i64 0)
          have hb5 := Sh.below_turn (below_more HB0.out HB4.out) (set5_turn w4 w.heap.size (.string ⟨#[]⟩) (.string ⟨#[]⟩) (.string ⟨#[]⟩) (.string ⟨#[]⟩) (.int .i64 0)) (Nat.le_refl _)
          generalize hW5 : ((((w4.setCell ⟨w.heap.size, 0, none⟩ (.string ⟨#[]⟩)).setCell ⟨w.heap.size, 1, none⟩ (.string ⟨#[]⟩)).setCell ⟨w.heap.size, 2, none⟩ (.string ⟨#[]⟩)).setCell ⟨w.heap.size, 3, none⟩ (.string ⟨#[]⟩)).setCell ⟨w.heap.size, 4, none⟩ (.int .i64 0) = W5 at hh5 hb5 ⊢
          obtain ⟨m0, m1, m2, m3, m4, -⟩ := five_cells hh5
          exact bodyPost_ret (v := .tuple #[clV noC, vs [], .slice none 0 0, .bool false]) (by simp [results, Tryz.results14, go_sem, m0, m1, m2, m3, m4, noC]) rfl (by rw [HP.out]; exact ⟨hb5, rfl⟩)
        | true =>
          by_cases h32 : n = 32
          · have HP := Lib.hid (show readP s = some (⟨tn, k, i, key, ex⟩, h, g) by rw [HP.out, HRD.out, if_pos ⟨rfl, h32⟩])
            subst h32
            have hne : ¬ w2.heap.size = w.heap.size := by omega
            obtain ⟨k0, k1, k2, k3, k4, -⟩ := five_cells HC4.out
            obtain ⟨r0, r1, r2, r3, r4, f0, f1, f2, f3, f4⟩ := HNO.out w4 HB4.out
            go_wp2_with fail
            go_region_law (fail)
            all_goals
              go_wp2_with fail
              have hh5 := set5 (HNR.out w4 HB4.out) (vs tn) (vs k) (vs i) (vs key) (.int .i64 ex)
              have hb5 := Sh.below_turn (below_more HB0.out HB4.out) (set5_turn w4 w.heap.size (vs tn) (vs k) (vs i) (vs key) (.int .i64 ex)) (Nat.le_refl _)
              have hr5 := RdB.kept HR8.out (set5_turn w4 w.heap.size (vs tn) (vs k) (vs i) (vs key) (.int .i64 ex)) (fun bb hb => by omega)
              generalize hW5 : ((((w4.setCell ⟨w.heap.size, 0, none⟩ (vs tn)).setCell ⟨w.heap.size, 1, none⟩ (vs k)).setCell ⟨w.heap.size, 2, none⟩ (vs i)).setCell ⟨w.heap.size, 3, none⟩ (vs key)).setCell ⟨w.heap.size, 4, none⟩ (.int .i64 ex) = W5 at hh5 hb5 hr5 ⊢
              obtain ⟨m0, m1, m2, m3, m4, -⟩ := five_cells hh5
              exact bodyPost_ret (v := .tuple #[clV ⟨tn, k, i, key, ex⟩, vs h, .slice A8 32 c8, .bool true]) (by simp [results, Tryz.results14, go_sem, m0, m1, m2, m3, m4]) rfl (by rw [HP.out]; exact ⟨below_drewN' hb5, A8, c8, rfl, HN.out, hc8, RdB.drew hr5⟩)
          · have HP := Lib.hid (show readP s = none by rw [HP.out, HRD.out, if_neg (fun h => h32 h.2)])
            have h32' : ((n : Int) != 32) = true := by rw [bne_iff_ne]; omega
            obtain ⟨r0, r1, r2, r3, r4, f0, f1, f2, f3, f4⟩ := HNO.out w4 HB4.out
            go_wp2_with fail
            have hh5 := set5 (HNR.out w4 HB4.out) (.string ⟨#[]⟩) (.string ⟨#[]⟩) (.string ⟨#[]⟩) (.string ⟨#[]⟩) (.int .i64 0)
            have hb5 := Sh.below_turn (below_more HB0.out HB4.out) (set5_turn w4 w.heap.size (.string ⟨#[]⟩) (.string ⟨#[]⟩) (.string ⟨#[]⟩) (.string ⟨#[]⟩) (.int .i64 0)) (Nat.le_refl _)
            generalize hW5 : ((((w4.setCell ⟨w.heap.size, 0, none⟩ (.string ⟨#[]⟩)).setCell ⟨w.heap.size, 1, none⟩ (.string ⟨#[]⟩)).setCell ⟨w.heap.size, 2, none⟩ (.string ⟨#[]⟩)).setCell ⟨w.heap.size, 3, none⟩ (.string ⟨#[]⟩)).setCell ⟨w.heap.size, 4, none⟩ (.int .i64 0) = W5 at hh5 hb5 ⊢
            obtain ⟨m0, m1, m2, m3, m4, -⟩ := five_cells hh5
            exact bodyPost_ret (v := .tuple #[clV noC, vs [], .slice none 0 0, .bool false]) (by simp [results, Tryz.results14, go_sem, m0, m1, m2, m3, m4, noC]) rfl (by rw [HP.out]; exact ⟨hb5, rfl⟩)
      · have hRD := readR_none (h := h) (show unhexF x = none from hug)
        have HP := Lib.hid (show readP s = none by rw [HP.out, hRD])
        clear hRD hug
        cases b
        all_goals
          obtain ⟨r0, r1, r2, r3, r4, f0, f1, f2, f3, f4⟩ := HNO.out w4 HB4.out
          go_wp2_with fail
          have hh5 := set5 (HNR.out w4 HB4.out) (.string ⟨#[]⟩) (.string ⟨#[]⟩) (.string ⟨#[]⟩) (.string ⟨#[]⟩) (.int .i64 0)
          have hb5 := Sh.below_turn (below_more HB0.out HB4.out) (set5_turn w4 w.heap.size (.string ⟨#[]⟩) (.string ⟨#[]⟩) (.string ⟨#[]⟩) (.string ⟨#[]⟩) (.int .i64 0)) (Nat.le_refl _)
          generalize hW5 : ((((w4.setCell ⟨w.heap.size, 0, none⟩ (.string ⟨#[]⟩)).setCell ⟨w.heap.size, 1, none⟩ (.string ⟨#[]⟩)).setCell ⟨w.heap.size, 2, none⟩ (.string ⟨#[]⟩)).setCell ⟨w.heap.size, 3, none⟩ (.string ⟨#[]⟩)).setCell ⟨w.heap.size, 4, none⟩ (.int .i64 0) = W5 at hh5 hb5 ⊢
          obtain ⟨m0, m1, m2, m3, m4, -⟩ := five_cells hh5
          exact bodyPost_ret (v := .tuple #[clV noC, vs [], .slice none 0 0, .bool false]) (by simp [results, Tryz.results14, go_sem, m0, m1, m2, m3, m4, noC]) rfl (by rw [HP.out]; exact ⟨hb5, rfl⟩)
end Go.Proofs.YthgjhfcafdepcaaGreatDoor.Tk

/-
  LangBrackets: the walk.
-/
import Derived.Test.YtgmlcnikphbiiaaDoorLangV
namespace Go.Proofs.YtgmlcnikphbiiaaDoor.L
open Go.RowKit Go.Proofs.YtgmlcnikphbiiaaDoor.B Go.Proofs.YtgmlcnikphbiiaaDoor.S10 Go.Proofs.YtgmlcnikphbiiaaDoor.Nm
open Go.Proofs.YtgmlcnikphbiiaaDoor.C (QRow Turn wpList_append_q)
set_option linter.unusedVariables false
set_option linter.unusedSimpArgs false

theorem par_cases {w : World} {r : Except Dg (List Ty)} {e : Ending} {w' : World} (h : PaRet w r e w') : Below w.heap.size w w' ∧
    ((∃ d, r = .error d ∧ e = .returned (.tuple #[.agg #[.slice none 0 0], .agg #[.int .i64 d.line, .int .i64 d.col, .int .i64 d.e]])) ∨
     (∃ ts A n c, r = .ok ts ∧ e = .returned (.tuple #[.agg #[.slice A n c], .agg #[.int .i64 0, .int .i64 0, .int .i64 0]]) ∧ SlV w' (fun b => w.heap.size ≤ b) 2 (TyR w' (fun b => w.heap.size ≤ b)) ts A n)) := by
  cases r with
  | error d => exact ⟨h.1, .inl ⟨d, rfl, h.2⟩⟩
  | ok ts =>
    obtain ⟨h1, A, n, c, h2, h3⟩ := par_ok h
    exact ⟨h1, .inr ⟨ts, A, n, c, rfl, h2, h3⟩⟩
theorem rfB_refl (x : Rf) : rfB x x = true := by unfold rfB; simp
theorem relsB_refl (x : Rl) : relsB x x = true := by
  unfold relsB
  rw [(allTo_iff _).2 (fun i => rfB_refl _), exprsB_refl]
  simp
theorem tysB_refl (x : Ty) : tysB x x = true := by
  unfold tysB
  rw [(allTo_iff _).2 (fun i => relsB_refl _)]
  simp
theorem schemasB_refl (x : List Ty) : schemasB x x = true := by
  unfold schemasB
  rw [(allTo_iff _).2 (fun i => tysB_refl _)]
  simp
theorem par_one {w : World} {r : Except Dg (List Ty)} {e : Ending} {w' : World} (h : PaRet w r e w') : Below w.heap.size w w' ∧ ∃ A n c a b k, e = .returned (.tuple #[.agg #[.slice A n c], .agg #[.int .i64 a, .int .i64 b, .int .i64 k]]) ∧ n ≤ 9223372036854775807 ∧
    (n = 1 → ∃ ts, r = .ok ts ∧ ts.length = 1 ∧ SlV w' (fun b => w.heap.size ≤ b) 2 (TyR w' (fun b => w.heap.size ≤ b)) ts A n) := by
  obtain ⟨hb, ⟨d, rfl, he⟩ | ⟨ts, A, n, c, rfl, he, hs⟩⟩ := par_cases h
  · exact ⟨hb, none, 0, 0, _, _, _, he, by omega, fun h => by cases h⟩
  · exact ⟨hb, A, n, c, _, _, _, he, hs.2.1, fun h => ⟨ts, rfl, by rw [hs.1, h], hs⟩⟩
abbrev DgV (a b c : Int) : Array Value := #[.int .i64 a, .int .i64 b, .int .i64 c]
set_option maxRecDepth 100000 in
set_option maxHeartbeats 4000000 in
theorem LangBrackets_list (text : Bs) (hl : text.length ≤ 140737488351232) (w : World) : Calls Tryd.prog 4 #[vs text] w (BRet w true) := by
  have hsz := sz text
  by_cases hlong : 1000 < text.length
  · go_enter Tryd.func4, Tryd.ntmps4
    go_wp2_with fail
    refine (awake_calls w).mono ?_
    rintro e w0 ⟨rfl, hb0⟩
    have HB0 := Lib.hid hb0
    clear hb0
    go_wp2
    go_ret
    exact ⟨rfl, HB0.out⟩
  have P1 := Lib.hid (fun w => Parse_calls (hd ++ text) w (by rw [List.length_append]; show 31 + text.length ≤ 100000; omega))
  have P2 := Lib.hid (fun w => Parse_calls (hd ++ (40 :: (text ++ [41]))) w (by rw [List.length_append, List.length_cons, List.length_append]; show 31 + (text.length + 1 + 1) ≤ 100000; omega))
  have HBR := Lib.hid (fun ts => brackets text ts (by omega))
  generalize hr1 : parseP (hd ++ text) = r1 at *
  generalize hr2 : parseP (hd ++ (40 :: (text ++ [41]))) = r2 at *
  clear hr1 hr2
  have hs1 : (⟨hd.toArray⟩ ++ ⟨text.toArray⟩ : ByteArray) = ⟨(hd ++ text).toArray⟩ := rfl
  have q1 : ¬ 9223372036854775807 < 31 + text.length := by omega
  have q2 : ¬ 9223372036854775807 < 32 + text.length := by omega
  have q3 : ¬ 9223372036854775807 < 32 + text.length + 1 := by omega
  go_enter Tryd.func4, Tryd.ntmps4
  go_wp2_with fail
  refine (awake_calls w).mono ?_
  rintro e w0 ⟨rfl, hb0⟩
  have HB0 := Lib.hid hb0
  clear hb0
  go_wp2_with fail
  refine (P1.out w0).mono ?_
  intro e w1 h1
  obtain ⟨hb1, A, n, c, a, b, k, rfl, hn, hone⟩ := par_one h1
  have HB1 := Lib.hid (keepB HB0.out hb1)
  have HONE := Lib.hid hone
  clear h1 hb1 hone
  go_wp2_with fail
  refine (P2.out _).mono ?_
  intro e w2 h2
  obtain ⟨hb2, h2⟩ := par_cases h2
  obtain ⟨g1, g2, hb12⟩ := two_boxes' hb2
  have HB2 := Lib.hid (keepB HB1.out hb12)
  have HB12 := Lib.hid hb12
  have s0 := cells_of g1 0 (.slice A n c) rfl
  obtain ⟨u0, u1, u2⟩ := three_of g2
  have l1 := lt_of_heap g1
  have l2 := lt_of_heap g2
  have hform : ∃ A' n' c' a' b' k', e = .returned (.tuple #[.agg #[.slice A' n' c'], .agg #[.int .i64 a', .int .i64 b', .int .i64 k']]) ∧ ((∃ dg : Dg, r2 = .error dg ∧ dg.e = k') ∨ (k' = 0 ∧ ∃ ts, r2 = .ok ts ∧ SlV w2 (fun x => 0 ≤ x) 2 (TyR w2 (fun x => 0 ≤ x)) ts A' n')) := by
    rcases h2 with ⟨d, h3, he⟩ | ⟨ts, A', n', c', h3, he, hs⟩
    · exact ⟨_, _, _, _, _, _, he, .inl ⟨d, h3, rfl⟩⟩
    · exact ⟨_, _, _, _, _, _, he, .inr ⟨rfl, ts, h3, hs.keep (by decide) (fun _ _ _ => Nat.zero_le _) (fun _ _ _ h => h) (fun x cs hx => hx.turn (Turn.refl (fun _ => False) _) (fun _ _ _ => ⟨fun h => h, Nat.zero_le _⟩))⟩⟩
  obtain ⟨A', n', c', a', b', k', rfl, hk'⟩ := hform
  have HK := Lib.hid hk'
  clear h2 hb2 hb12 hk' g1 g2
  have HRET : Hid (∀ W, Below w2.heap.size w2 W → BRet w true (.returned (.bool true)) W) := Lib.hid (fun W hW => ⟨rfl, keepB HB2.out hW⟩)
  have HBOX : Hid (Below w2.heap.size w2 ((w2.alloc (.cells #[.slice A' n' c'] 25)).alloc (.cells #[.int .i64 a', .int .i64 b', .int .i64 k'] 28))) := Lib.hid (((Below.refl _ w2).alloc (Nat.le_refl _) _).alloc (by simp) _)
  by_cases hk : k = 0
  rotate_left
  · have hk' : (k == 0) = false := by simpa using hk
    have hk'' : (k != 0) = true := by simpa using hk
    clear hk
    go_wp2
    go_ret
    exact HRET.out _ HBOX.out
  subst hk
  by_cases hn1 : n = 1
  rotate_left
  · have hn1' : ((n : Int) == 1) = false := by simp; omega
    have hn1'' : ((n : Int) != 1) = true := by simp; omega
    clear hn1
    go_wp2
    go_ret
    exact HRET.out _ HBOX.out
  subst hn1
  obtain ⟨ts, hts, htl, hsl⟩ := HONE.out rfl
  have HSL := Lib.hid (types_below hsl HB12.out)
  obtain ⟨ad, p, B, m, d, rfl, hp, d0, d1, hr⟩ := type_cells (types_below hsl HB12.out) 0 (by decide)
  have hp' : p = ad := by rw [← hp, Nat.zero_mul]; exact add_zero ad
  subst hp'
  have HR := Lib.hid hr
  have hml := hr.2.1
  have hpl := World.block_lt_of_cell? w2 _ d0
  clear hp hsl hr
  by_cases hm : m = 2
  rotate_left
  · have hm' : ((m : Int) == 2) = false := by simp; omega
    have hm'' : ((m : Int) != 2) = true := by simp; omega
    clear hm hts htl
    go_wp2
    go_ret
    exact HRET.out _ HBOX.out
  subst hm
  have hrl := HR.out.1
  have hbr := HBR.out ts hts htl hrl
  have HTS := Lib.hid hts
  clear hts htl hrl
  rcases hbr with ⟨dg, hd2, hd9⟩ | hok
  · have hk9 : k' = 9 := by
      rcases HK.out with ⟨dg', h3, h4⟩ | ⟨h3, ts', h4, h5⟩
      · rw [hd2] at h3
        cases h3
        omega
      · rw [hd2] at h4; cases h4
    subst hk9
    clear hd2 hd9
    go_wp2
    go_ret
    exact HRET.out _ HBOX.out
  · have hk0 : k' = 0 ∧ SlV w2 (fun x => 0 ≤ x) 2 (TyR w2 (fun x => 0 ≤ x)) ts A' n' := by
      rcases HK.out with ⟨dg', h3, h4⟩ | ⟨h3, ts', h4, h5⟩
      · rw [hok] at h3; cases h3
      · rw [hok] at h4
        cases h4
        exact ⟨h3, h5⟩
    obtain ⟨rfl, hs2⟩ := hk0
    have HS2 := Lib.hid hs2
    have HA2 := Lib.hid ((Below.refl w2.heap.size w2).alloc (Nat.le_refl _) (.cells #[.slice A' n' c'] 25))
    clear hok hs2
    go_wp2_with fail
    have hX : SchV ((w2.alloc (.cells #[.slice A' n' c'] 25)).alloc (.cells #[.int .i64 a', .int .i64 b', .int .i64 0] 28)) _ ts (.agg #[.slice (some p) 1 c]) := SchV.below ⟨some p, 1, c, rfl, HSL.out⟩ HBOX.out
    have hY : SchV ((w2.alloc (.cells #[.slice A' n' c'] 25)).alloc (.cells #[.int .i64 a', .int .i64 b', .int .i64 0] 28)) _ ts (.agg #[.slice A' n' c']) := SchV.below ⟨A', n', c', rfl, HS2.out⟩ HBOX.out
    refine (Schemas_calls _ _ ts ts _ _ _ hX hY).mono ?_
    rintro e w3 ⟨rfl, hb3⟩
    have hB3 := below_then HBOX.out HBOX.out.size hb3
    have HB3 := Lib.hid hB3
    have hself : schemasB ts ts = true := schemasB_refl ts
    rw [hself]
    have g0 := heap_alloc_new w2 (.cells #[.slice A' n' c'] 25)
    have g1 := heap_alloc_new (w2.alloc (.cells #[.slice A' n' c'] 25)) (.cells #[.int .i64 a', .int .i64 b', .int .i64 0] 28)
    have gs : (w2.alloc (.cells #[.slice A' n' c'] 25)).heap.size = w2.heap.size + 1 := by simp
    rw [gs] at g1
    have g3 := (hb3.block (w2.heap.size + 1) (by simp)).trans g1
    obtain ⟨x0, x1, x2⟩ := three_of g3
    clear g0 g1 gs g3 hb3 hB3 hX hY hself
    go_wp2
    go_ret
    exact HRET.out _ HB3.out
theorem LangBrackets_calls (s : ByteArray) (w : World) (hs : s.size ≤ 140737488351232) : Calls Tryd.prog 4 #[.string s] w (BRet w true) := by
  obtain ⟨⟨l⟩⟩ := s
  exact LangBrackets_list l (by rw [sz] at hs; exact hs) w
end Go.Proofs.YtgmlcnikphbiiaaDoor.L

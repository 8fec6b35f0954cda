/-
  The cache: Put.
-/
import Derived.Test.YtfmekhebdpjdkaaCacheC
namespace Go.Proofs.Ytfmekhebdpjdkaa.C
open Go.RowKit Go.Proofs.Ytfmekhebdpjdkaa.B
open Go.Maps (Keyed)
set_option linter.unusedVariables false
set_option linter.unusedSimpArgs false

theorem info_str : (Try.prog.info? 9).map (fun i => (i.zero, i.size, i.bytes)) = some (some (.string ByteArray.empty), 1, 16) := by kernel_rfl
def repl (q : Nm) (y : Bool) (l : List (Nm × Bool)) : List (Nm × Bool) := l.map fun p => if p.1 = q then (q, y) else p
def putF (most rev : Int) (q : Nm) (y : Bool) (t : Tn) : Tn :=
  if t.1 ≠ rev ∨ most < 1 then t
  else if (t.2.lookup q).isSome then (t.1, repl q y t.2)
  else (t.1, if ((t.2 ++ [(q, y)]).length : Int) > most then (t.2 ++ [(q, y)]).drop 1 else t.2 ++ [(q, y)])
theorem repl_keys (q : Nm) (y : Bool) (l : List (Nm × Bool)) : (repl q y l).map Prod.fst = l.map Prod.fst := by
  unfold repl
  rw [List.map_map]
  refine List.map_congr_left fun p _ => ?_
  by_cases h : p.1 = q <;> simp [h]
theorem repl_lookup (q : Nm) (y : Bool) : ∀ (l : List (Nm × Bool)), (l.lookup q).isSome = true → ∀ r, (repl q y l).lookup r = upd (fun q => l.lookup q) q (some y) r
  | [], h, r => by simp at h
  | (a, b) :: l, h, r => by
    by_cases ha : a = q
    · subst ha
      by_cases hr : r = a
      · subst hr; simp [repl, upd]
      · have e : (r == a) = false := by simpa using hr
        by_cases hs : (l.lookup a).isSome = true
        · have := repl_lookup a y l hs r
          simp only [repl, List.map_cons, if_true, List.lookup_cons, e, upd_other _ _ hr]
          rw [upd_other _ _ hr] at this
          exact this
        · have e2 : repl a y l = l := by
            unfold repl
            rw [List.map_congr_left (g := id), List.map_id]
            intro p hp
            by_cases hpa : p.1 = a
            · exfalso
              apply hs
              rw [List.lookup_isSome_iff]
              exact ⟨p, hp, by simp [hpa]⟩
            · simp [hpa]
          have : repl a y ((a, b) :: l) = (a, y) :: repl a y l := by simp [repl]
          rw [this, e2]
          simp [List.lookup_cons, e, upd_other _ _ hr]
    · have e0 : (q == a) = false := by simpa using fun h => ha h.symm
      rw [List.lookup_cons, e0] at h
      have ih := repl_lookup q y l h r
      have : repl q y ((a, b) :: l) = (a, b) :: repl q y l := by simp [repl, ha]
      rw [this, List.lookup_cons, ih]
      by_cases hr : r = q
      · subst hr
        rw [upd_same, e0, upd_same]
      · rw [upd_other _ _ hr, upd_other _ _ hr, List.lookup_cons]
theorem snoc_lookup (q : Nm) (y : Bool) : ∀ (l : List (Nm × Bool)), l.lookup q = none → ∀ r, (l ++ [(q, y)]).lookup r = upd (fun q => l.lookup q) q (some y) r
  | [], h, r => by
    by_cases hr : r = q
    · subst hr; simp [upd]
    · have e : (r == q) = false := by simpa using hr
      simp [List.lookup_cons, e, upd_other _ _ hr]
  | (a, b) :: l, h, r => by
    have e0 : (q == a) = false := by
      cases e : q == a
      · rfl
      · rw [List.lookup_cons, e] at h; cases h
    rw [List.lookup_cons, e0] at h
    have ih := snoc_lookup q y l h r
    rw [List.cons_append, List.lookup_cons, ih]
    by_cases hr : r = q
    · subst hr
      rw [upd_same, e0, upd_same]
    · rw [upd_other _ _ hr, upd_other _ _ hr, List.lookup_cons]
theorem lookup_none {l : List (Nm × Bool)} {q : Nm} (h : l.lookup q = none) : q ∉ l.map Prod.fst := by
  intro hm
  obtain ⟨p, hp, rfl⟩ := List.mem_map.1 hm
  have : (l.lookup p.1).isSome = true := by rw [List.lookup_isSome_iff]; exact ⟨p, hp, by simp⟩
  rw [h] at this; cases this
theorem drop_lookup {l : List (Nm × Bool)} {p : Nm × Bool} (h : ((p :: l).map Prod.fst).Nodup) (r : Nm) : l.lookup r = upd (fun q => (p :: l).lookup q) p.1 none r := by
  by_cases hr : r = p.1
  · subst hr
    rw [upd_same]
    cases hl : l.lookup p.1 with
    | none => rfl
    | some y =>
      exfalso
      have : (l.lookup p.1).isSome = true := by rw [hl]; rfl
      rw [List.lookup_isSome_iff] at this
      obtain ⟨x, hx, he⟩ := this
      exact (List.nodup_cons.1 h).1 (List.mem_map.2 ⟨x, hx, (show p.1 = x.1 by simpa using he).symm⟩)
  · have e : (r == p.1) = false := by simpa using hr
    rw [upd_other _ _ hr]
    obtain ⟨p1, p2⟩ := p
    simp [List.lookup_cons, e]
theorem CPost.drew {w : World} {cb : Nat} {most : Int} {N : Nat} {tag : Nat → Option Tag} {mb : Nat} {S' : Nm → Option Tn} {v : Value} {e : Ending} {w' : World} (h : CPost w cb most N tag mb S' v e w') (n : Nat) : CPost w cb most N tag mb S' v e (w'.drewN n) := by
  obtain ⟨tag', pm', h1, h2, h3⟩ := h
  exact ⟨tag', pm', h1, h2.kept (fun _ _ => rfl) (Nat.le_refl _), h3.1.drew n, h3.2⟩
set_option maxRecDepth 100000 in
set_option maxHeartbeats 1000000 in
theorem Put_idle {w : World} {cb : Nat} {most : Int} {N : Nat} {tag : Nat → Option Tag} {mb : Nat} {pm : Nm → Option Nat} {S : Nm → Option Tn} (h : Rep w cb most N tag mb pm S) (hN : N < 100000) (s : ByteArray) (hs : s.size ≤ maxLen) (rev : Int) (q : ByteArray) (hq : q.size ≤ maxLen) (y : Bool)
    (x : Tn) (hx : atF rev (S s.data.toList) = x) (hi : x.1 ≠ rev ∨ most < 1) :
    Calls Try.prog 11 #[.pointer (some ⟨cb, 0, none⟩), .string s, .int .i64 rev, .string q, .bool y] w (CPost w cb most (N + 1) tag mb (upd S s.data.toList (some x)) (.tuple #[])) := by
  have hat := at_calls h hN s hs rev
  rw [hx] at hat
  clear hx
  have HAT := Lib.hid hat
  clear hat h
  go_enter Try.func11, Try.ntmps11
  go_wp2_with fail
  refine HAT.out.mono ?_
  clear HAT
  rintro e w1 ⟨pb, tag1, pm1, rfl, hpm, hR, hT⟩
  obtain ⟨ab, ov, t1, t2, t3, hp, ha, hqr, hl, hnd, hml⟩ := hR.parts _ pb _ hpm (upd_same _ _ _)
  have hp0 := cells_of hp 0 (.int .i64 x.1) rfl
  have hc0 := cells_of hR.hc 0 (.int .i64 most) rfl
  have HR := Lib.hid hR
  have HT := Lib.hid hT
  clear hR hT t1 t2 t3 hp ha hqr hl hnd hml
  obtain ⟨x1, x2⟩ := x
  by_cases hr : (x1 != rev) = true
  · go_wp2
    exact bodyPost_ret (results_none rfl _ _ _) rfl ⟨tag1, pm1, rfl, HR.out, HT.out⟩
  · have hr : (x1 != rev) = false := by simpa using hr
    have hm : most < 1 := by
      rcases hi with hi | hi
      · simp at hr; exact absurd hr hi
      · exact hi
    clear hi
    go_wp2
    exact bodyPost_ret (results_none rfl _ _ _) rfl ⟨tag1, pm1, rfl, HR.out, HT.out⟩
end Go.Proofs.Ytfmekhebdpjdkaa.C

/-
  The cache: New, Get, Drop, Len.
-/
import Derived.Test.YtfmekhebdpjdkaaCacheB
namespace Go.Proofs.Ytfmekhebdpjdkaa.C
open Go.RowKit Go.Proofs.Ytfmekhebdpjdkaa.B
open Go.Maps (Keyed)
set_option linter.unusedVariables false
set_option linter.unusedSimpArgs false

theorem at_calls {w : World} {cb : Nat} {most : Int} {N : Nat} {tag : Nat → Option Tag} {mb : Nat} {pm : Nm → Option Nat} {S : Nm → Option Tn} (h : Rep w cb most N tag mb pm S) (hN : N < 100000) (s : ByteArray) (hs : s.size ≤ maxLen) (rev : Int) :
    Calls Try.prog 17 #[.pointer (some ⟨cb, 0, none⟩), .string s, .int .i64 rev] w (AtPost w cb most N tag mb S s.data.toList (atF rev (S s.data.toList))) := by
  cases hS : S s.data.toList with
  | none => exact at_none h hN s hs rev hS
  | some t => exact at_some h hN s hs rev t.1 t.2 hS
theorem upd_upd {X : Type} (F : Nm → Option X) (q : Nm) (a b : Option X) : upd (upd F q a) q b = upd F q b := by
  funext r; unfold upd; split <;> rfl
def getF (rev : Int) (q : Nm) (t : Tn) : Bool × Bool := if t.1 = rev then ((t.2.lookup q).getD false, (t.2.lookup q).isSome) else (false, false)
/-- What a call leaves: the cache at the given state. -/
def CPost (w : World) (cb : Nat) (most : Int) (N : Nat) (tag : Nat → Option Tag) (mb : Nat) (S' : Nm → Option Tn) (v : Value) (e : Ending) (w' : World) : Prop :=
  ∃ tag' pm', e = .returned v ∧ Rep w' cb most N tag' mb pm' S' ∧ TStep w tag w' tag'
set_option maxRecDepth 100000 in
set_option maxHeartbeats 1000000 in
theorem Get_calls {w : World} {cb : Nat} {most : Int} {N : Nat} {tag : Nat → Option Tag} {mb : Nat} {pm : Nm → Option Nat} {S : Nm → Option Tn} (h : Rep w cb most N tag mb pm S) (hN : N < 100000) (s : ByteArray) (hs : s.size ≤ maxLen) (rev : Int) (q : ByteArray) (hq : q.size ≤ maxLen) :
    Calls Try.prog 9 #[.pointer (some ⟨cb, 0, none⟩), .string s, .int .i64 rev, .string q] w
      (CPost w cb most (N + 1) tag mb (upd S s.data.toList (some (atF rev (S s.data.toList)))) (.tuple #[.bool (getF rev q.data.toList (atF rev (S s.data.toList))).1, .bool (getF rev q.data.toList (atF rev (S s.data.toList))).2])) := by
  have hat := at_calls h hN s hs rev
  obtain ⟨x, hx⟩ : ∃ x, atF rev (S s.data.toList) = x := ⟨_, rfl⟩
  rw [hx] at hat ⊢
  clear hx
  have HAT := Lib.hid hat
  clear hat
  go_enter Try.func9, Try.ntmps9
  go_wp2_with fail
  refine HAT.out.mono ?_
  clear HAT
  rintro e w1 ⟨pb, tag1, pm1, rfl, hpm, hR, hT⟩
  obtain ⟨ab, ov, t1, t2, t3, hp, ha, hqr, hl, hnd, hml⟩ := hR.parts _ pb _ hpm (upd_same _ _ _)
  have hp0 := cells_of hp 0 (.int .i64 x.1) rfl
  have hp1 := cells_of hp 1 (.map (some ab)) rfl
  have HA := Lib.hid ha
  have HR := Lib.hid hR
  have HT := Lib.hid hT
  clear h hR hT t1 t2 t3 hp ha hqr hl hnd hml
  obtain ⟨y, hy⟩ : ∃ y, x.2.lookup q.data.toList = y := ⟨_, rfl⟩
  have HY := Lib.hid hy
  have hu : BE.get (x.2.lookup q.data.toList) = .bool (y.getD false) := by
    rw [hy]; cases y <;> rfl
  have HU := Lib.hid hu
  clear hu hy
  obtain ⟨x1, x2⟩ := x
  by_cases hr : x1 = rev
  · cases y with
    | none =>
      go_wp2_with (first
        | (at_lookup; refine wpList_look_ok BE rfl _ _ 45 4 rfl law Try.underlying45 (zeroB _) rfl HA.out _ _ rfl (key_mk q hq) _ false HU.out (by rw [HY.out]; rfl) ?_)
        | fail)
      go_ret2
      refine ⟨tag1, pm1, ?_, HR.out, HT.out⟩
      have := HY.out
      simp [getF, this]
    | some b =>
      go_wp2_with (first
        | (at_lookup; refine wpList_look_ok BE rfl _ _ 45 4 rfl law Try.underlying45 (zeroB _) rfl HA.out _ _ rfl (key_mk q hq) _ true HU.out (by rw [HY.out]; rfl) ?_)
        | fail)
      go_ret2
      refine ⟨tag1, pm1, ?_, HR.out, HT.out⟩
      have := HY.out
      simp [getF, this, hr]
  · have hrb : (x1 != rev) = true := by simpa using hr
    cases y with
    | none =>
      go_wp2_with (first
        | (at_lookup; refine wpList_look_ok BE rfl _ _ 45 4 rfl law Try.underlying45 (zeroB _) rfl HA.out _ _ rfl (key_mk q hq) _ false HU.out (by rw [HY.out]; rfl) ?_)
        | fail)
      go_ret2
      exact ⟨tag1, pm1, by simp [getF, hr], HR.out, HT.out⟩
    | some b =>
      go_wp2_with (first
        | (at_lookup; refine wpList_look_ok BE rfl _ _ 45 4 rfl law Try.underlying45 (zeroB _) rfl HA.out _ _ rfl (key_mk q hq) _ true HU.out (by rw [HY.out]; rfl) ?_)
        | fail)
      go_ret2
      exact ⟨tag1, pm1, by simp [getF, hr], HR.out, HT.out⟩
def lenF : Option Tn → Int
  | none => 0
  | some t => t.2.length
set_option maxRecDepth 100000 in
set_option maxHeartbeats 1000000 in
theorem Len_calls {w : World} {cb : Nat} {most : Int} {N : Nat} {tag : Nat → Option Tag} {mb : Nat} {pm : Nm → Option Nat} {S : Nm → Option Tn} (h : Rep w cb most N tag mb pm S) (s : ByteArray) (hs : s.size ≤ maxLen) :
    Calls Try.prog 15 #[.pointer (some ⟨cb, 0, none⟩), .string s] w fun e w' => e = .returned (.int .i64 (lenF (S s.data.toList))) ∧ w' = w := by
  have hc1 := cells_of h.hc 1 (.map (some mb)) rfl
  have hsame := h.same s.data.toList
  have H := Lib.hid h
  cases hS : S s.data.toList with
  | none =>
    rw [hS] at hsame
    have hpm : pm s.data.toList = none := by simpa using hsame
    clear h hsame hS
    go_enter Try.func15, Try.ntmps15
    go_wp2_with (first
      | (at_lookup; refine wpList_look PE rfl _ _ 40 43 rfl law Try.underlying40 (zeroP _) rfl H.out.hm _ _ rfl (key_mk s hs) (.pointer none) (by rw [hpm]; rfl) ?_)
      | fail)
    go_ret
    exact ⟨rfl, rfl⟩
  | some t =>
    rw [hS] at hsame
    obtain ⟨pb, hpm⟩ := Option.isSome_iff_exists.1 hsame
    obtain ⟨ab, ov, t1, t2, t3, hp, ha, hqr, hl, hnd, hml⟩ := h.parts _ pb t hpm hS
    have hp2 := cells_of hp 2 ov rfl
    have hov : ∃ a c, ov = .slice a t.2.length c := by
      rcases hqr.2 with ⟨rfl, h0⟩ | ⟨g, off, cap, cur, rfl, _⟩
      · exact ⟨none, 0, by rw [h0]⟩
      · exact ⟨_, _, rfl⟩
    obtain ⟨oa, oc, rfl⟩ := hov
    clear h hsame hS hp ha hqr hnd hml t1 t2 t3
    go_enter Try.func15, Try.ntmps15
    go_wp2_with (first
      | (at_lookup; refine wpList_look PE rfl _ _ 40 43 rfl law Try.underlying40 (zeroP _) rfl H.out.hm _ _ rfl (key_mk s hs) (.pointer (some ⟨pb, 0, none⟩)) (by rw [hpm]; rfl) ?_)
      | fail)
    go_ret
    exact ⟨rfl, rfl⟩
set_option maxRecDepth 100000 in
set_option maxHeartbeats 1000000 in
theorem Drop_calls {w : World} {cb : Nat} {most : Int} {N : Nat} {tag : Nat → Option Tag} {mb : Nat} {pm : Nm → Option Nat} {S : Nm → Option Tn} (h : Rep w cb most N tag mb pm S) (s : ByteArray) (hs : s.size ≤ maxLen) :
    Calls Try.prog 13 #[.pointer (some ⟨cb, 0, none⟩), .string s] w (CPost w cb most N tag mb (upd S s.data.toList none) (.tuple #[])) := by
  have hc1 := cells_of h.hc 1 (.map (some mb)) rfl
  have H := Lib.hid h
  clear h
  go_enter Try.func13, Try.ntmps13
  go_wp2_with (first
    | (at_delete; refine wpList_drop PE rfl _ _ 40 rfl 43 law Try.underlying40 rfl H.out.hm _ _ rfl (key_mk s hs) ?_; intro w1 hm1 hg1)
    | fail)
  refine bodyPost_end (results_none rfl _ _ _) rfl ?_
  have hT : Turn (fp tag) w w1 := Turn.grown hg1 (fun k hk => by cases hk; simp [fp, H.out.tm])
  have hne : cb ≠ mb := fun e => by have := H.out.tm; rw [← e, H.out.tc] at this; cases this
  refine ⟨tag, _, rfl, H.out.turn (Nat.le_refl _) _ none ?_ hm1 (fun b hb => Nat.lt_of_lt_of_le (H.out.lt b hb) hT.size) (fun _ _ => rfl) (by rw [upd_same]; rfl) (fun q hq => upd_other _ _ hq) (fun pb x h1 h2 => by cases h2) ?_, hT, fun _ _ => rfl⟩
  · rw [hg1.block cb (H.out.lt cb (by simp [H.out.tc])) (fun e => hne (Option.some.inj e))]; exact H.out.hc
  · intro b q hq hb
    refine hg1.block b (H.out.lt b (by rcases hb with e | e | e <;> simp [e])) (fun e => ?_)
    rw [Option.some.inj e, H.out.tm] at hb
    rcases hb with e | e | e <;> cases e
set_option maxRecDepth 100000 in
set_option maxHeartbeats 1000000 in
theorem New_calls (w : World) (most : Int) :
    Calls Try.prog 8 #[.int .i64 most] w fun e w' => ∃ cb tag mb pm, e = .returned (.pointer (some ⟨cb, 0, none⟩)) ∧ Rep w' cb most 0 tag mb pm (fun _ => none) ∧ Below w.heap.size w w' ∧ ∀ b, tag b ≠ none → w.heap.size ≤ b := by
  have hmm := @run_makeMap Try.prog
  go_enter Try.func8, Try.ntmps8
  go_wp2
  go_ret
  refine ⟨w.heap.size + 1, fun b => if b = w.heap.size + 1 then some .top else if b = w.heap.size then some .map else none, w.heap.size, fun _ => none, rfl, ⟨by simp, by simp, ?_, ?_, ?_, fun _ => rfl, fun nm pb t h => by cases h⟩, ((Below.refl _ w).alloc (Nat.le_refl _) _).alloc (by simp) _, ?_⟩
  · simpa using heap_alloc_new (w.alloc (.map #[] 0)) (.cells #[.int .i64 most, .map (some w.heap.size)] 42)
  · exact (OwnF.made PE w 9).kept (alloc_old _ (by simp))
  · intro b hb
    split at hb
    · simp; omega
    · split at hb
      · simp; omega
      · exact absurd rfl hb
  · intro b hb
    dsimp only at hb
    split at hb
    · omega
    · split at hb
      · omega
      · exact absurd rfl hb
end Go.Proofs.Ytfmekhebdpjdkaa.C

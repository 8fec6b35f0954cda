/-
  The cache's chapter's example.
-/
import Derived.Test.YtfmekhebdpjdkaaCacheG
namespace Go.Proofs.Ytfmekhebdpjdkaa.C
open Go.RowKit Go.Proofs.Ytfmekhebdpjdkaa.B
set_option linter.unusedVariables false
set_option linter.unusedSimpArgs false

def E0 : Nm → Option Tn := fun _ => none
def one (k : Nm) (t : Tn) : Nm → Option Tn := upd E0 k (some t)
theorem one_same (k : Nm) (t : Tn) : one k t k = some t := upd_same _ _ _
theorem one_upd (k : Nm) (t t' : Tn) : upd (one k t) k (some t') = one k t' := upd_upd _ _ _ _
def TruePost (w : World) (e : Ending) (w' : World) : Prop := e = .returned (.bool true) ∧ Below w.heap.size w w'
theorem CPost.to {w : World} {cb : Nat} {most : Int} {N : Nat} {tag : Nat → Option Tag} {mb : Nat} {S S' : Nm → Option Tn} {v v' : Value} {e : Ending} {w' : World} (h : CPost w cb most N tag mb S v e w') (hS : S = S') (hv : v = v') : CPost w cb most N tag mb S' v' e w' := by
  rw [← hS, ← hv]; exact h
/-- Worlds behind calls on a cache that was made since w0: nothing below w0 turns. -/
structure Mine (w0 w : World) (tag : Nat → Option Tag) : Prop where
  below : Below w0.heap.size w0 w
  new : ∀ b, tag b ≠ none → w0.heap.size ≤ b
theorem Mine.step {w0 w w' : World} {tag tag' : Nat → Option Tag} (h : Mine w0 w tag) (hT : TStep w tag w' tag') : Mine w0 w' tag' := by
  refine ⟨h.below.trans (hT.1.below h.below.size (fun k hk hf => by have := h.new k hf; omega)), fun b hb => ?_⟩
  by_cases hlt : b < w.heap.size
  · exact h.new b (by rw [← hT.2 b hlt]; exact hb)
  · have := h.below.size; omega
set_option maxRecDepth 100000 in
set_option maxHeartbeats 1000000 in
theorem awake_calls (w : World) : Calls Try.prog 7 #[] w (TruePost w) := by
  go_enter Try.func7, Try.ntmps7
  go_wp2_with fail
  refine (New_calls w 1).mono ?_
  rintro e w1 ⟨cb, tag, mb, pm, rfl, hR, hb, hn⟩
  have hM : Mine w w1 tag := ⟨hb, hn⟩
  go_wp2_with fail
  refine (Put_calls hR (by omega) ⟨#[116]⟩ (by decide) 1 ⟨#[97]⟩ (by decide) true (fun _ => by decide)).mono ?_
  intro e w2 h
  obtain ⟨tag2, pm2, rfl, hR2, hT⟩ := h.to (S' := one [116] (1, [([97], true)])) rfl rfl
  have hM2 := hM.step hT
  clear hT hM hR h hb hn
  go_wp2_with fail
  refine (Get_calls hR2 (by omega) ⟨#[116]⟩ (by decide) 1 ⟨#[97]⟩ (by decide)).mono ?_
  intro e w3 h
  obtain ⟨tag3, pm3, rfl, hR3, hT⟩ := h.to (S' := one [116] (1, [([97], true)])) (v' := .tuple #[.bool true, .bool true]) (one_upd _ _ _) rfl
  have hM3 := hM2.step hT
  clear hT hM2 hR2 h
  go_wp2_with fail
  refine (Put_calls hR3 (by omega) ⟨#[116]⟩ (by decide) 1 ⟨#[98]⟩ (by decide) false (fun _ => by decide)).mono ?_
  intro e w4 h
  obtain ⟨tag4, pm4, rfl, hR4, hT⟩ := h.to (S' := one [116] (1, [([98], false)])) (one_upd _ _ _) rfl
  have hM4 := hM3.step hT
  clear hT hM3 hR3 h
  go_wp2_with fail
  refine (Get_calls hR4 (by omega) ⟨#[116]⟩ (by decide) 1 ⟨#[97]⟩ (by decide)).mono ?_
  intro e w5 h
  obtain ⟨tag5, pm5, rfl, hR5, hT⟩ := h.to (S' := one [116] (1, [([98], false)])) (v' := .tuple #[.bool false, .bool false]) (one_upd _ _ _) rfl
  have hM5 := hM4.step hT
  clear hT hM4 hR4 h
  go_wp2_with fail
  refine (Len_calls hR5 ⟨#[116]⟩ (by decide)).mono ?_
  rintro e w6 ⟨he, rfl⟩
  obtain rfl : e = .returned (.int .i64 1) := he
  go_wp2_with fail
  refine (Get_calls hR5 (by omega) ⟨#[116]⟩ (by decide) 2 ⟨#[98]⟩ (by decide)).mono ?_
  intro e w7 h
  obtain ⟨tag7, pm7, rfl, hR7, hT⟩ := h.to (S' := one [116] (2, [])) (v' := .tuple #[.bool false, .bool false]) (one_upd _ _ _) rfl
  have hM7 := hM5.step hT
  clear hT hM5 hR5 h
  go_wp2_with fail
  refine (Len_calls hR7 ⟨#[116]⟩ (by decide)).mono ?_
  rintro e w8 ⟨he, rfl⟩
  obtain rfl : e = .returned (.int .i64 0) := he
  go_wp2
  go_ret
  exact ⟨rfl, hM7.below⟩
end Go.Proofs.Ytfmekhebdpjdkaa.C

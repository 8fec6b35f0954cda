/-
  What may be encoded: the closure, IndexFunc and ContainsFunc over the kids.
-/
import Derived.Test.YtminegmjklehnaaGreatDoorJsonQ
namespace Go.Proofs.YtminegmjklehnaaGreatDoor.J
open Go.RowKit Go.Proofs.YtminegmjklehnaaGreatDoor.B
open Go.Proofs.YtminegmjklehnaaGreatDoor.M hiding Bs
open Go.Proofs.YtminegmjklehnaaGreatDoor.C (QRow Turn)
set_option linter.unusedVariables false
set_option linter.unusedSimpArgs false

def FitJ : Js → Prop
  | .mk k n t names nk kid => t.length ≤ 9223372036854775807 ∧ (∀ x ∈ names, x.length ≤ 9223372036854775807) ∧ ∀ i, FitJ (kid i)
theorem andTo_all {n : Nat} (f : Fin n → Bool) : ∀ k, andTo f k = allTo f k
  | 0 => rfl
  | k + 1 => by rw [andTo, allTo, andTo_all f k]
/-- may, at a depth. -/
def MSpec (d : Nat) : Prop := ∀ (j : Js) (w : World) (F : Nat → Prop) (k n : Int) (t : Bs) (A : Option Addr) (an ac : Nat) (B : Option Addr) (bn bc : Nat), JsV w F j (jAgg k n t A an ac B bn bc) → FitJ j → TabW w →
  Calls Tryz.prog 34 #[jAgg k n t A an ac B bn bc, .int .i64 (12 - (d : Int))] w (BRet w (mayJ j d))
set_option maxRecDepth 100000 in
set_option maxHeartbeats 1000000 in
theorem within_calls {d : Nat} (hm : MSpec d) {j : Js} {w : World} {F : Nat → Prop} {k n : Int} {t : Bs} {A : Option Addr} {an ac : Nat} {B : Option Addr} {bn bc : Nat} (h : JsV w F j (jAgg k n t A an ac B bn bc)) (hf : FitJ j) (hT : TabW w) {db : Nat} {dp : Int} (hd12 : d ≤ 12) (hdp : dp + 1 = 12 - (d : Int)) (hdb : w.cell? ⟨db, 0, none⟩ = some (.int .i64 dp)) :
    Calls Tryz.prog 54 #[jAgg k n t A an ac B bn bc, .pointer (some ⟨db, 0, none⟩)] w (BRet w (!mayJ j d)) := by
  have hb1 : Below w.heap.size w (w.alloc (.cells (jcs k n t A an ac B bn bc) 27)) := (Below.refl _ w).alloc (Nat.le_refl _) _
  have HM := Lib.hid (fun W (hb : Below w.heap.size w W) => hm j W F k n t A an ac B bn bc (h.below hb) hf (hT.below hb))
  rw [← hdp] at HM
  have hlo : -1 ≤ dp := by omega
  have hhi : dp ≤ 11 := by omega
  have HB1 := Lib.hid hb1
  have HC := Lib.hid (keepC hb1 hdb)
  have hdc := HC.out
  have hcb := cellAlloc hdb (.cells (jcs k n t A an ac B bn bc) 27)
  generalize mayJ j d = m at *
  clear h hf hT hb1 hm hdp hd12
  go_enter Tryz.func54, Tryz.ntmps54
  go_wp2_with fail
  refine (HM.out _ HB1.out).mono ?_
  rintro e w1 ⟨rfl, hb⟩
  have HB2 := Lib.hid (keepB HB1.out hb)
  clear hb
  go_wp2
  go_ret
  exact ⟨rfl, HB2.out⟩
set_option maxRecDepth 100000 in
set_option maxHeartbeats 4000000 in
theorem idxKid_calls {d : Nat} (hm : MSpec d) {w : World} {F : Nat → Prop} {k n : Int} {t : Bs} {names : List Bs} {nk : Nat} {kid : Fin nk → Js} {A : Option Addr} {an ac : Nat} {B : Option Addr} {bc : Nat} (h : JsV w F (.mk k n t names nk kid) (jAgg k n t A an ac B nk bc)) (hf : ∀ i, FitJ (kid i)) (hT : TabW w)
    {db : Nat} {dp : Int} (hd12 : d ≤ 12) (hdp : dp + 1 = 12 - (d : Int)) (hdb : w.cell? ⟨db, 0, none⟩ = some (.int .i64 dp)) (c : Nat) :
    Calls Tryz.prog 82 #[.slice B nk c, .func (.func 54) #[] #[.pointer (some ⟨db, 0, none⟩)]] w (IxRet w nk (!allTo (n := nk) (fun i => mayJ (kid i) d) nk)) := by
  obtain ⟨_, _, _, _, -, -, hnl, -⟩ := h.top
  have S := Lib.hid h
  have HF := Lib.hid hf
  have HT := Lib.hid hT
  have HD := Lib.hid hdb
  have HDP := Lib.hid hdp
  have HMS := Lib.hid hm
  clear h hf hT hdb hdp hm
  go_enter Tryz.func82, Tryz.ntmps82
  go_wp2_with fail
  go_loopw [5, 8] (fun v5 v8 wr => ∃ j : Nat, j ≤ nk ∧ v8 = .int .i64 j ∧ Hid (allTo (n := nk) (fun i => mayJ (kid i) d) j = true) ∧ Hid (Below w.heap.size w wr)) (fun _ v8 _ => nk - (intOf v8).toNat)
  case atStart => exact ⟨0, Nat.zero_le _, rfl, Lib.hid rfl, Lib.hid (Below.refl _ _)⟩
  case round =>
    obtain ⟨j, hjn, rfl, HALL, HB⟩ := hrel
    by_cases hj : j < nk
    · have hS := S.out.below HB.out
      obtain ⟨ad, p, k0, n0, t0, A0, an0, ac0, B0, bn0, bc0, rfl, hp, -, d0, d1, d2, d3, d4, hk⟩ := hS.kid j hj
      have HST := Lib.hid (allTo_step (n := nk) (fun i => mayJ (kid i) d) hj)
      have HAF := Lib.hid (allTo_false (n := nk) (fun i => mayJ (kid i) d) nk hj hj)
      have HC := Lib.hid (fun W (hb : Below wr.heap.size wr W) => within_calls HMS.out (hk.below hb) (HF.out _) (HT.out.below (keepB HB.out hb)) hd12 HDP.out (keepC (keepB HB.out hb) HD.out))
      obtain ⟨m, hm⟩ : ∃ m, mayJ (kid ⟨j, hj⟩) d = m := ⟨_, rfl⟩
      rw [hm] at HST HAF HC
      have HMM := Lib.hid hm
      clear hm hk hS
      go_wp2_with fail
      refine (HC.out _ (Below.refl _ _)).mono ?_
      rintro e w1 ⟨rfl, hb⟩
      have HB1 := Lib.hid (keepB HB.out hb)
      clear hb
      cases m
      · go_wp2
        go_ret
        exact ⟨j, rfl, by omega, by omega, by rw [HAF.out trivial]; simp, HB1.out⟩
      · go_wp2
        exact ⟨⟨j + 1, by omega, by go_num, Lib.hid (by rw [HST.out, HALL.out]; rfl), HB1⟩, by simp [intOf]; omega⟩
    · have hjn' : j = nk := by omega
      subst hjn'
      go_wp2
      go_ret
      exact ⟨-1, rfl, by omega, by omega, by rw [HALL.out]; rfl, HB.out⟩
set_option maxRecDepth 100000 in
set_option maxHeartbeats 1000000 in
theorem anyKid_calls {d : Nat} (hm : MSpec d) {w : World} {F : Nat → Prop} {k n : Int} {t : Bs} {names : List Bs} {nk : Nat} {kid : Fin nk → Js} {A : Option Addr} {an ac : Nat} {B : Option Addr} {bc : Nat} (h : JsV w F (.mk k n t names nk kid) (jAgg k n t A an ac B nk bc)) (hf : ∀ i, FitJ (kid i)) (hT : TabW w)
    {db : Nat} {dp : Int} (hd12 : d ≤ 12) (hdp : dp + 1 = 12 - (d : Int)) (hdb : w.cell? ⟨db, 0, none⟩ = some (.int .i64 dp)) (c : Nat) :
    Calls Tryz.prog 56 #[.slice B nk c, .func (.func 54) #[] #[.pointer (some ⟨db, 0, none⟩)]] w (BRet w (!andTo (fun i => mayJ (kid i) d) nk)) := by
  have HI := Lib.hid (idxKid_calls hm h hf hT hd12 hdp hdb c)
  have HA := Lib.hid (andTo_all (fun i => mayJ (kid i) d) nk)
  clear h hf hm hT hdb
  go_enter Tryz.func56, Tryz.ntmps56
  go_wp2_with fail
  refine HI.out.mono ?_
  rintro e w1 ⟨r, rfl, h1, h2, h3, hb⟩
  have HB := Lib.hid hb
  have H3 := Lib.hid h3
  clear hb h3
  go_wp2
  go_ret
  refine ⟨?_, HB.out⟩
  rw [HA.out, ← H3.out]
  rfl
end Go.Proofs.YtminegmjklehnaaGreatDoor.J

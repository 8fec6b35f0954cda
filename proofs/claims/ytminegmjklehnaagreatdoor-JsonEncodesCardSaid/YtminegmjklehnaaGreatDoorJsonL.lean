/-
  The reader of JSON: list.
-/
import Derived.Test.YtminegmjklehnaaGreatDoorJsonI
import Derived.Test.YtminegmjklehnaaGreatDoorJsonK
namespace Go.Proofs.YtminegmjklehnaaGreatDoor.J
open Go.RowKit Go.Proofs.YtminegmjklehnaaGreatDoor.B
open Go.Proofs.YtminegmjklehnaaGreatDoor.M hiding Bs
open Go.Proofs.YtminegmjklehnaaGreatDoor.C (QRow Turn)
set_option linter.unusedVariables false
set_option linter.unusedSimpArgs false

abbrev boxW (w : World) (rb : Nat) : World := (w.alloc (.cells #[.pointer (some ⟨rb, 0, none⟩)] 45)).alloc (.cells (jcs 0 0 [] none 0 0 none 0 0) 27)
theorem box_of {w W : World} {rb : Nat} (hb : Below (boxW w rb).heap.size (boxW w rb) W) :
    W.heap[w.heap.size]? = some (.cells #[.pointer (some ⟨rb, 0, none⟩)] 45 (0, 0)) ∧ W.heap[w.heap.size + 1]? = some (.cells (jcs 0 0 [] none 0 0 none 0 0) 27 (0, 0)) ∧ Below w.heap.size w W := by
  have h1 := heap_alloc_new w (.cells #[.pointer (some ⟨rb, 0, none⟩)] 45)
  have h2 := heap_alloc_new (w.alloc (.cells #[.pointer (some ⟨rb, 0, none⟩)] 45)) (.cells (jcs 0 0 [] none 0 0 none 0 0) 27)
  have hs : (w.alloc (.cells #[.pointer (some ⟨rb, 0, none⟩)] 45)).heap.size = w.heap.size + 1 := by simp
  rw [hs] at h2
  have hs2 : (boxW w rb).heap.size = w.heap.size + 1 + 1 := by simp
  exact ⟨(hb.block _ (by omega)).trans ((alloc_old _ (by omega)).trans h1), (hb.block _ (by omega)).trans h2, keepB (((Below.refl _ w).alloc (Nat.le_refl _) _).alloc (by omega) _) hb⟩
/-- the state ahead of inside. -/
theorem LS.start {w w2 : World} {rb : Nat} (hrb : rb < w.heap.size) (hp : w2.heap[w.heap.size]? = some (.cells #[.pointer (some ⟨rb, 0, none⟩)] 45 (0, 0))) (hr : w2.heap[w.heap.size + 1]? = some (.cells (jcs 0 0 [] none 0 0 none 0 0) 27 (0, 0))) :
    LSt (w.heap.size + 2) rb w.heap.size w2.heap.size [] (w2.alloc (.cells (jcs 4 0 [] none 0 0 none 0 0) 27)) := by
  have h1 := lt_of_heap hr
  exact ⟨none, 0, by omega, hrb, by omega, by omega, (alloc_old _ (by omega)).trans hp, heap_alloc_new _ _, OwnL.nil _ _ _ _, fun g hg => by cases hg⟩
theorem names_nil (w : World) (F : Nat → Prop) : SlV w F 1 StrR [] none ([] : List Bs).length := ⟨rfl, by simp, fun k x hx => by simp at hx⟩
/-- the result, stored and read back. -/
theorem list_end {w w3 w4 : World} {rb pb jb : Nat} {acc : List Js} {B : Option Addr} {c : Nat} {M : Bs} {deep : Int} {y0 y1 y2 y3 y4 : Value} (hb : Below w.heap.size w w3) (hpb : pb = w.heap.size) (hS : LS (w.heap.size + 2) rb pb jb acc B c w4) (hU : Turn (fun k => k = rb ∨ w.heap.size + 2 ≤ k) w3 w4) (hR : RB w4 rb M deep) :
    let W := (((((w4.setCell ⟨w.heap.size + 1, 0, none⟩ (.int .i64 4)).setCell ⟨w.heap.size + 1, 1, none⟩ (.int .i64 0)).setCell ⟨w.heap.size + 1, 2, none⟩ (vs [])).setCell ⟨w.heap.size + 1, 3, none⟩ (.slice none 0 0)).setCell ⟨w.heap.size + 1, 4, none⟩ (.slice B acc.length c));
    At rb w W ∧ JsV W (fun b => w.heap.size ≤ b) (manyJ 4 [] acc) (jAgg 4 0 [] none 0 0 B acc.length c) ∧ RB W rb M deep := by
  intro W
  subst hpb
  have hT := set5_turn (fp := fun k => k = w.heap.size + 1) w4 (w.heap.size + 1) rfl (.int .i64 4) (.int .i64 0) (vs []) (.slice none 0 0) (.slice B acc.length c)
  have hrb := hS.hpb
  refine ⟨Turn.trans (Turn.trans (Turn.of_below hb : At rb w w3) hU (fun k hk hlt => hk.resolve_right (by omega))) hT (fun k hk hlt => by omega), ?_, hR.kept (hT.block _ hR.lt (fun e => by omega))⟩
  have h1 : OwnL W 27 5 (JsR W (fun b => w.heap.size ≤ b)) (.slice B acc.length c) acc :=
    hS.row.kept (fun g hg => hT.block g (hS.row.block_lt hg) (fun e => by have := hS.g1 g hg; omega)) (fun x cs hx => hx.turn hT (fun b hb hl => ⟨fun e => by have := hb.1; omega, by have := hb.1; omega⟩))
  exact many_JsV (names := []) (names_nil _ _) (h1.read (by decide) (fun g hg => by have := hS.g1 g hg; show w.heap.size ≤ g; omega)) (by simp)
def outL : Except Int (List Js × Bs) → Except Int (Js × Bs)
  | .error e => .error e
  | .ok (l, M) => .ok (manyJ 4 [] l, M)
theorem list_out (deep : Int) (p : P Js) (L : Bs) : (if deep < 12 then listP p L else .error 9) = outL (if deep < 12 then insideP (oneL p) 93 [] L else .error 9) := by
  split
  · unfold listP outL
    rfl
  · rfl
set_option maxRecDepth 100000 in
set_option maxHeartbeats 4000000 in
theorem list_calls {p : P Js} {deep : Int} (hv : deep < 12 → VSpec p (deep + 1)) (hp : Less p) {w : World} {rb : Nat} {L : Bs} (hR : RB w rb (91 :: L) deep) (hT : Tabs rb w) (hd0 : 0 ≤ deep) (hd12 : deep ≤ 12) :
    Calls Tryz.prog 44 #[.pointer (some ⟨rb, 0, none⟩)] w (Ends rb deep w (ValV w) (if deep < 12 then listP p L else .error 9)) := by
  have hmf : ∀ (fn : Fn) (first cap : Array Value) (w : World), (Instr.makeFunc fn first cap).run Tryz.prog w = .ok (.func fn first cap) w := fun _ _ _ _ => rfl
  have hlen := hR.len
  have HIN := Lib.hid (fun (B0 pb jb : Nat) (hrb : rb < B0) (W : World) (hS : LSt B0 rb pb jb [] W) (hR : RB W rb (91 :: L) deep) (hT : Tabs rb W) =>
    inside_list (S := LSt B0 rb pb jb) (one := oneL p) (size := List.length) (endc := 93) (openc := 91) (a1 := jb) (a2 := pb) (fun a w w' hh hA => by obtain ⟨B, c, h⟩ := hh; exact ⟨B, c, h.at hA⟩) (oneL_steps hp) (fun hd a w L hh hR hT hl => by obtain ⟨B, c, h⟩ := hh; exact listOne_calls (hv hd) h hR hT hl) hrb (a := []) (w := W) (L := L) (by simp at hlen ⊢; omega) hS hR hT hd0 hd12)
  have HR := Lib.hid hR
  have HT := Lib.hid hT
  have hrb := hR.lt
  obtain ⟨RR, hRR⟩ : ∃ RR, (if deep < 12 then insideP (oneL p) 93 [] L else .error 9) = RR := ⟨_, rfl⟩
  have hres := list_out deep p L
  rw [hRR] at hres
  generalize (if deep < 12 then listP p L else .error 9 : Except Int (Js × Bs)) = R0 at hres ⊢
  have HRES := Lib.hid hres
  rw [hRR] at HIN
  clear hv hp hR hT hRR hlen hres
  go_enter Tryz.func44, Tryz.ntmps44
  go_wp2_with fail
  refine (List_calls none 0 0 _).mono ?_
  rintro e w2 ⟨rfl, hb⟩
  obtain ⟨hp2, hr2, hb2⟩ := box_of hb
  have HS := Lib.hid (LS.start hrb hp2 hr2)
  have hb3 : Below w.heap.size w (w2.alloc (.cells (jcs 4 0 [] none 0 0 none 0 0) 27)) := hb2.alloc (by have := lt_of_heap hr2; omega) _
  have hr3 := (alloc_old (.cells (jcs 4 0 [] none 0 0 none 0 0) 27) (lt_of_heap hr2)).trans hr2
  have b0 := cells_of hp2 0 _ rfl
  have b0' := cellAlloc b0 (.cells (jcs 4 0 [] none 0 0 none 0 0) 27)
  have HB3 := Lib.hid hb3
  have HR3 := Lib.hid hr3
  clear hb hp2 hr2 hb2 hb3 hr3
  go_wp2_with fail
  refine (HIN.out (w.heap.size + 2) w.heap.size w2.heap.size (by omega) _ HS.out (HR.out.kept (HB3.out.block _ hrb)) (HT.out.at (at_below HB3.out))).mono ?_
  rintro e w4 ⟨hU, hM⟩
  cases RR with
  | error d =>
    have hM : e = .panicked (erChain d) := hM
    subst hM
    refine ⟨rfl, Turn.trans (Turn.of_below HB3.out : At rb w _) hU (fun k hk hlt => hk.resolve_right (by omega)), ?_⟩
    rw [HRES.out]
    rfl
  | ok q =>
    obtain ⟨acc, M⟩ := q
    have hM : e = .returned (.tuple #[]) ∧ LSt (w.heap.size + 2) rb w.heap.size w2.heap.size acc w4 ∧ RB w4 rb M deep := hM
    obtain ⟨rfl, ⟨B, c, hS⟩, hR4⟩ := hM
    have hr4 := (hU.block _ (lt_of_heap HR3.out) (fun hk => by omega)).trans HR3.out
    obtain ⟨r0, r1, r2, r3, r4, q0, q1, q2, q3, q4⟩ := five_of hr4
    obtain ⟨j0, j1, j2, j3, j4, f0, f1, f2, f3, f4⟩ := five_of hS.jc
    have HE := Lib.hid (list_end (y0 := .int .i64 0) (y1 := .int .i64 0) (y2 := .int .i64 0) (y3 := .int .i64 0) (y4 := .int .i64 0) HB3.out rfl hS hU hR4)
    have HR4 := Lib.hid hr4
    clear hU hS hR4 hr4 b0 b0'
    go_wp2
    refine bodyPost_ret (results_cell_row rfl _ _ (w.heap.size + 1) 27 (jcs 4 0 [] none 0 0 B acc.length c) (0, 0) _ rfl (set5 HR4.out _ _ _ _ _) Tryz.underlying27 rfl (by kernel_rfl)) rfl ?_
    rw [HRES.out]
    exact ⟨HE.out.1, ⟨_, rfl, HE.out.2.1⟩, HE.out.2.2⟩
end Go.Proofs.YtminegmjklehnaaGreatDoor.J

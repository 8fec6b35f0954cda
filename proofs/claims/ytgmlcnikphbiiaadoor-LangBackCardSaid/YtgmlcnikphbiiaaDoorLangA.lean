/-
  Words at the head of a text: strings.TrimLeft at the letters, digits and the underline.
-/
import Derived.Test.YtgmlcnikphbiiaaDoorLangN
import Derived.Lib.EndianMore
namespace Go.Proofs.YtgmlcnikphbiiaaDoor.L
open Go.RowKit Go.Proofs.YtgmlcnikphbiiaaDoor.B
set_option linter.unusedVariables false
set_option linter.unusedSimpArgs false

def wordT : List UInt8 := [97, 98, 99, 100, 101, 102, 103, 104, 105, 106, 107, 108, 109, 110, 111, 112, 113, 114, 115, 116, 117, 118, 119, 120, 121, 122, 48, 49, 50, 51, 52, 53, 54, 55, 56, 57, 95]
def wc (c : UInt8) : Bool := (97 ≤ c.toNat && c.toNat ≤ 122) || (48 ≤ c.toNat && c.toNat ≤ 57) || c.toNat == 95
theorem drop_one (t : ByteArray) : (t.extract 1 t.size).data.toList = t.data.toList.drop 1 := by
  have h : (t.extract 1 t.size).data.toList = List.take (t.size - 1) t.data.toList.tail := by simp [ByteArray.data_extract]
  rw [h, List.drop_one, List.take_of_length_le]
  rw [List.length_tail, Array.length_toList]
  exact Nat.le_refl _
set_option maxRecDepth 100000 in
set_option maxHeartbeats 1000000 in
theorem trim_calls (s : ByteArray) (b : Nat) (w : World) (hc : ∀ x : UInt8, w.cell? ⟨b, x.toNat, none⟩ = some (.bool (wc x))) :
    Calls Tryd.prog 82 #[.string s, .pointer (some ⟨b, 0, none⟩)] w fun e w' => (∃ t : ByteArray, e = .returned (.string t) ∧ t.data.toList = s.data.toList.dropWhile wc) ∧ w' = w := by
  have HC := Lib.hid hc
  clear hc
  go_enter Tryd.func82, Tryd.ntmps82
  go_wp2
  go_loop [0] (fun v0 => ∃ t : ByteArray, v0 = .string t ∧ t.data.toList.dropWhile wc = s.data.toList.dropWhile wc) (fun v0 => match v0 with | .string t => t.size | _ => 0)
  case atStart => exact ⟨s, rfl, rfl⟩
  case round =>
    obtain ⟨t, rfl, ht⟩ := hrel
    by_cases h0 : 0 < t.size
    · have h1 : (0 : Int) < (t.size : Int) := by omega
      have hsp := HC.out t[0]
      have hdw : t.data.toList = t[0] :: t.data.toList.drop 1 := by
        have h' : 0 < t.data.toList.length := by rw [Array.length_toList]; exact h0
        rw [List.drop_one]
        cases hl : t.data.toList with
        | nil => rw [hl] at h'; cases h'
        | cons a l =>
          have : t[0] = a := by
            have e : t.data.toList[0]? = some t[0] := by
              rw [List.getElem?_eq_getElem h']; rfl
            rw [hl] at e
            exact (Option.some.inj e).symm
          rw [this]; rfl
      go_wp2_with fail
      refine (Tryd.asciiSet_contains b t[0] (wc t[0]) w hsp).mono ?_
      rintro e w' ⟨rfl, rfl⟩
      have HD := Lib.hid hdw
      obtain ⟨bb, hbb⟩ : ∃ bb, wc t[0] = bb := ⟨_, rfl⟩
      rw [hbb]
      have HBB := Lib.hid hbb
      have HT := Lib.hid ht
      clear hdw hsp hbb ht
      cases bb
      · go_wp2
        go_ret
        refine ⟨⟨t, rfl, ?_⟩, rfl⟩
        rw [← HT.out, HD.out, List.dropWhile_cons_of_neg (by rw [HBB.out]; simp)]
      · go_wp2
        refine ⟨⟨_, rfl, ?_⟩, ?_⟩
        · rw [drop_one, ← HT.out]
          conv => rhs; rw [HD.out]
          rw [List.dropWhile_cons_of_pos HBB.out]
        · simp; omega
    · have hz : t.data.toList = [] := List.eq_nil_of_length_eq_zero (by rw [Array.length_toList]; show t.size = 0; omega)
      have HT := Lib.hid (show t.data.toList = s.data.toList.dropWhile wc by rw [hz] at ht ⊢; exact ht)
      have h1 : ¬ (0 : Int) < (t.size : Int) := by omega
      clear hz ht
      go_wp2
      go_ret
      exact ⟨⟨t, rfl, HT.out⟩, rfl⟩
theorem zero112 (w : World) : (zeroValue 112).run Tryd.prog w = .ok (.agg (Array.replicate 256 (.bool false))) w := by kernel_rfl
theorem word_set : ∀ p : Fin 256, wordT.contains (UInt8.ofNat p.val) = wc (UInt8.ofNat p.val) := by decide +kernel
theorem word_set' (x : UInt8) : wordT.contains x = wc x := by
  have h := word_set ⟨x.toNat, x.toNat_lt⟩
  simpa using h
set_option maxRecDepth 100000 in
set_option maxHeartbeats 1000000 in
theorem TrimLeft_calls (s : ByteArray) (w : World) :
    Calls Tryd.prog 70 #[.string s, .string ⟨#[97, 98, 99, 100, 101, 102, 103, 104, 105, 106, 107, 108, 109, 110, 111, 112, 113, 114, 115, 116, 117, 118, 119, 120, 121, 122, 48, 49, 50, 51, 52, 53, 54, 55, 56, 57, 95]⟩] w
      fun e w' => (∃ t : ByteArray, e = .returned (.string t) ∧ t.data.toList = s.data.toList.dropWhile wc) ∧ Below w.heap.size w w' := by
  have hset := Tryd.strings_makeASCIISet zero112 ⟨wordT.toArray⟩ w (by decide) (by
    intro j b hb
    have hm := List.mem_of_getElem? hb
    have h : ∀ b ∈ wordT, b.toNat < 128 := by decide
    exact h b hm)
  have HSET := Lib.hid hset
  clear hset
  by_cases h0 : s.size = 0
  · have hz : s.data.toList = [] := List.eq_nil_of_length_eq_zero (by rw [Array.length_toList]; exact h0)
    have HZ := Lib.hid hz
    have hs : s = ⟨#[]⟩ := by
      cases s with
      | mk d => simp at hz; rw [hz]
    clear hz
    subst hs
    go_enter Tryd.func70, Tryd.ntmps70
    go_wp2
    go_ret
    exact ⟨⟨_, rfl, rfl⟩, Below.refl _ _⟩
  · have he : s.toList.isEmpty = false := by
      rw [ByteArray.toList_eq]
      cases hl : s.data.toList with
      | nil => exact absurd (by have := congrArg List.length hl; rw [Array.length_toList] at this; exact this) h0
      | cons a l => rfl
    go_enter Tryd.func70, Tryd.ntmps70
    go_wp2_with fail
    refine (show Calls Tryd.prog 81 #[.string ⟨#[97, 98, 99, 100, 101, 102, 103, 104, 105, 106, 107, 108, 109, 110, 111, 112, 113, 114, 115, 116, 117, 118, 119, 120, 121, 122, 48, 49, 50, 51, 52, 53, 54, 55, 56, 57, 95]⟩] w _ from HSET.out).mono ?_
    rintro e w1 ⟨rfl, rfl⟩
    have hcs : (Lib.setCells wordT).size = 256 := Lib.setCells_size _
    have h1c := Lib.setCells_one wordT
    have hat := Lib.setCells_at wordT
    have HCS := Lib.hid hcs
    have H1C := Lib.hid h1c
    have HAT := Lib.hid hat
    clear HSET h1c hat
    change Hid ((Lib.setCells wordT).size = 256) at HCS
    generalize Lib.setCells wordT = cs at *
    have hz : Tryd.zeroCells112.size = 256 := by kernel_rfl
    have hnew : ((w.alloc (.cells cs 112)).alloc (.cells Tryd.zeroCells112 112)).heap[w.heap.size + 1]? = some (.cells Tryd.zeroCells112 112 (0, 0)) := by
      simpa using heap_alloc_new (w.alloc (.cells cs 112)) (.cells Tryd.zeroCells112 112)
    have hsome : ∀ j, j < 256 → (((w.alloc (.cells cs 112)).alloc (.cells Tryd.zeroCells112 112)).cell? ⟨w.heap.size + 1, 0 + j, none⟩).isSome = true := fun j hj => by
      rw [cell_of_row _ _ _ _ _ (0, 0) hnew]
      simp [hz, hj]
    have hone : ∀ u ∈ cs.toList, u.oneCell' = true := fun u hu => by
      have := H1C.out
      rw [Array.all_eq_true_iff_forall_mem] at this
      exact this u (by simpa using hu)
    have hst := run_storeCells_cells (P := Tryd.prog) (w.heap.size + 1) 0 cs.toList 0 ((w.alloc (.cells cs 112)).alloc (.cells Tryd.zeroCells112 112)) (fun j hj => by simpa using hsome j (by simpa [hcs] using hj)) (fun j hj => frozen_of_row _ _ _ _ _ hnew) hone
    simp only [Nat.add_zero] at hst
    have hcell : ∀ x : UInt8, (((w.alloc (.cells cs 112)).alloc (.cells Tryd.zeroCells112 112)).setCells (w.heap.size + 1) 0 cs.toList).cell? ⟨w.heap.size + 1, x.toNat, none⟩ = some (.bool (wc x)) := fun x => by
      have hx : x.toNat < cs.toList.length := by simp [hcs]; exact x.toNat_lt
      have := World.cell?_setCells_in (w.heap.size + 1) cs.toList 0 ((w.alloc (.cells cs 112)).alloc (.cells Tryd.zeroCells112 112)) (fun j hj => hsome j (by simpa [hcs] using hj)) x.toNat hx
      rw [Nat.zero_add] at this
      rw [this]
      have h2 := HAT.out x
      rw [word_set'] at h2
      rw [← h2]
      simp
    have hb : Below w.heap.size w (((w.alloc (.cells cs 112)).alloc (.cells Tryd.zeroCells112 112)).setCells (w.heap.size + 1) 0 cs.toList) :=
      (((Below.refl _ w).alloc (Nat.le_refl _) _).alloc (by simp) _).trans (Lib.below_setCells_w (by omega) _ _ _)
    have HC2 := Lib.hid hcell
    have HB := Lib.hid hb
    clear hz hnew hsome hone hcell hb HCS H1C HAT
    go_wp2_with fail
    refine (trim_calls s (w.heap.size+1) _ HC2.out).mono ?_
    rintro e w' ⟨⟨t, rfl, ht⟩, rfl⟩
    go_wp2
    go_ret
    exact ⟨⟨t, rfl, ht⟩, HB.out⟩
end Go.Proofs.YtgmlcnikphbiiaaDoor.L

/-
  Plain functions on texts (layer 10: names): what a name, an ID, an object, a subject, a tuple as text is. No program in sight.
-/
import Derived.Lib.Bytealg
import Derived.Lib.IndexLaws
namespace Go.Proofs.YthgjhfcafdepcaaGreatDoor.S10
open Go.Lib

/-- A byte of a text, as a number; 0 beyond its end. -/
def bt (s : ByteArray) (i : Nat) : Int := if h : i < s.size then ((s[i]'h).toNat : Int) else 0
def onlyB (s : ByteArray) (m : Int) (srt : Int → Bool) : Bool := s.data.toList.all (fun c => srt c.toNat) && (decide (0 < s.size) && decide ((s.size : Int) ≤ m))
def smallB (c : Int) : Bool := decide (97 ≤ c) && decide (c ≤ 122)
def greatB (c : Int) : Bool := decide (65 ≤ c) && decide (c ≤ 90)
def digitB (c : Int) : Bool := decide (48 ≤ c) && decide (c ≤ 57)
def nameC (c : Int) : Bool := smallB c || (digitB c || c == 95)
def idC (c : Int) : Bool := smallB c || (greatB c || (digitB c || (c == 95 || (c == 46 || c == 45))))
/-- Is a text a name? -/
def nameB (s : ByteArray) : Bool := !(s.toList == [116, 121, 112, 101]) && (!(s.toList == [114, 101, 108, 97, 116, 105, 111, 110]) && (!(s.toList == [100, 101, 102, 105, 110, 101]) && (onlyB s 16 nameC && smallB (bt s 0))))
/-- Is a text a thing's own name? -/
def idB (s : ByteArray) : Bool := onlyB s 24 idC
/-- What is ahead of the first such sign, what is behind it, and is there one? -/
def cutF (s : ByteArray) (c : UInt8) : ByteArray × ByteArray × Bool :=
  if 0 ≤ indexByte s.data.toList c then (s.extract 0 (indexByte s.data.toList c).toNat, s.extract ((indexByte s.data.toList c).toNat + 1) s.size, true) else (s, ⟨#[]⟩, false)
abbrev eps : ByteArray := ⟨#[]⟩
def objF (s : ByteArray) : ByteArray × ByteArray × Bool :=
  if (nameB (cutF s 58).1 && idB (cutF s 58).2.1) = true then ((cutF s 58).1, (cutF s 58).2.1, true) else (eps, eps, false)
def subF (s : ByteArray) : ByteArray × ByteArray × ByteArray × Bool :=
  if ((objF (cutF s 35).1).2.2 && (!(cutF s 35).2.2 || nameB (cutF s 35).2.1)) = true then ((objF (cutF s 35).1).1, (objF (cutF s 35).1).2.1, (cutF s 35).2.1, true) else (eps, eps, eps, false)
structure Tup where
  t : ByteArray
  i : ByteArray
  r : ByteArray
  st : ByteArray
  si : ByteArray
  sr : ByteArray
  deriving DecidableEq
def noTup : Tup := ⟨eps, eps, eps, eps, eps, eps⟩
def tupF (s : ByteArray) : Tup × Bool :=
  let a := cutF s 64
  let b := cutF a.1 35
  let o := objF b.1
  let w := subF a.2.1
  if (o.2.2 && (w.2.2.2 && nameB b.2.1)) = true then (⟨o.1, o.2.1, b.2.1, w.1, w.2.1, w.2.2.1⟩, true) else (noTup, false)
def showO (t i : ByteArray) : ByteArray := if (nameB t && idB i) = true then (t ++ ⟨#[58]⟩) ++ i else eps
def showS (t i r : ByteArray) : ByteArray :=
  if (showO t i).toList.isEmpty = true then showO t i else if r.toList.isEmpty = true then showO t i else if nameB r = true then ((showO t i) ++ ⟨#[35]⟩) ++ r else eps
def showT (x : Tup) : ByteArray :=
  if (showO x.t x.i).toList.isEmpty = true then eps else if (showS x.st x.si x.sr).toList.isEmpty = true then eps else if nameB x.r = true then (((showO x.t x.i ++ ⟨#[35]⟩) ++ x.r) ++ ⟨#[64]⟩) ++ showS x.st x.si x.sr else eps

theorem bt_range (s : ByteArray) (i : Nat) : 0 ≤ bt s i ∧ bt s i ≤ 255 := by
  unfold bt
  split
  · rename_i h
    have := (s[i]'h).toNat_lt
    omega
  · omega
theorem onlyB_yes {s : ByteArray} {srt : Int → Bool} {k : Nat} (hk : ¬ k < s.size) (h : ∀ j, j < k → srt (bt s j) = true) : s.data.toList.all (fun c => srt c.toNat) = true := by
  rw [List.all_eq_true]
  intro c hc
  obtain ⟨j, hj, rfl⟩ := List.getElem_of_mem hc
  have hj' : j < s.size := by simpa using hj
  have := h j (by omega)
  simpa [bt, hj', ByteArray.getElem_eq_getElem_data] using this
theorem onlyB_no {s : ByteArray} {srt : Int → Bool} {k : Nat} (hk : k < s.size) (h : srt (s[k].toNat : Int) = false) : s.data.toList.all (fun c => srt c.toNat) = false := by
  rw [Bool.eq_false_iff]
  intro H
  rw [List.all_eq_true] at H
  have := H s[k] (by simp [ByteArray.getElem_eq_getElem_data])
  simp_all
theorem onlyB_no' {s : ByteArray} {m : Int} {srt : Int → Bool} {k : Nat} (hk : k < s.size) (h : srt (s[k].toNat : Int) = false) : onlyB s m srt = false := by
  unfold onlyB; rw [onlyB_no hk h]; rfl
theorem onlyB_step {s : ByteArray} {srt : Int → Bool} {k : Nat} (ha : ∀ j : Nat, j < k → srt (bt s j) = true) (hb : srt (bt s k) = true) : ∀ j : Nat, j < k + 1 → srt (bt s j) = true := by
  intro j hj
  by_cases e : j = k
  · subst e; exact hb
  · exact ha j (by omega)
theorem index_lt (l : List UInt8) (c : UInt8) (h : 0 ≤ indexByte l c) : (indexByte l c).toNat < l.length := by
  have := (indexByte_some (l := l) (c := c) (o := (indexByte l c).toNat) (by omega)).1
  exact (List.getElem?_eq_some_iff.1 this).1
theorem cutF_size (s : ByteArray) (c : UInt8) : (cutF s c).1.size ≤ s.size ∧ (cutF s c).2.1.size ≤ s.size := by
  unfold cutF
  split
  · simp; omega
  · exact ⟨Nat.le_refl _, Nat.zero_le _⟩
theorem objF_size (s : ByteArray) : (objF s).1.size ≤ s.size ∧ (objF s).2.1.size ≤ s.size := by
  have := cutF_size s 58
  unfold objF
  split
  · exact this
  · exact ⟨Nat.zero_le _, Nat.zero_le _⟩
theorem nameB_size {s : ByteArray} (h : nameB s = true) : 0 < s.size ∧ s.size ≤ 16 := by
  simp [nameB, onlyB] at h; omega
theorem idB_size {s : ByteArray} (h : idB s = true) : 0 < s.size ∧ s.size ≤ 24 := by
  simp [idB, onlyB] at h; omega
theorem showO_size (t i : ByteArray) : (showO t i).size ≤ 41 := by
  unfold showO
  split
  · rename_i h
    simp only [Bool.and_eq_true] at h
    have := nameB_size h.1; have := idB_size h.2
    have e : (⟨#[58]⟩ : ByteArray).size = 1 := rfl
    rw [ByteArray.size_append, ByteArray.size_append]; omega
  · exact Nat.zero_le _
theorem showS_size (t i r : ByteArray) : (showS t i r).size ≤ 58 := by
  have := showO_size t i
  unfold showS
  split
  · omega
  · split
    · omega
    · split
      · rename_i h
        have := nameB_size h
        have e : (⟨#[35]⟩ : ByteArray).size = 1 := rfl
        rw [ByteArray.size_append, ByteArray.size_append]; omega
      · exact Nat.zero_le _
end Go.Proofs.YthgjhfcafdepcaaGreatDoor.S10

/-
  Tokens: what is computed, plain.
-/
import Derived.Test.YthgjhfcafdepcaaGreatDoorTokB
import Derived.Test.YthgjhfcafdepcaaGreatDoorShaH
import Derived.Test.YthgjhfcafdepcaaGreatDoorPlain10
import Derived.Test.YthgjhfcafdepcaaGreatDoorNumZ
import Derived.Lib.LastIndexByte
namespace Go.Proofs.YthgjhfcafdepcaaGreatDoor.Tk
open Go.RowKit Go.Proofs.YthgjhfcafdepcaaGreatDoor.B Go.Proofs.YthgjhfcafdepcaaGreatDoor.S10
open Go.Proofs.YthgjhfcafdepcaaGreatDoor.M
open Go.Proofs.YthgjhfcafdepcaaGreatDoor.C (QRow Turn)
open Go.Proofs.YthgjhfcafdepcaaGreatDoor.Sh (macF macF_len)
open Go.Proofs.YthgjhfcafdepcaaGreatDoor.S01 (hexF unhexF)
set_option linter.unusedVariables false
set_option linter.unusedSimpArgs false

structure Cl where
  (tn k i key : Bs)
  ex : Int
  deriving DecidableEq
def noC : Cl := ⟨[], [], [], [], 0⟩
abbrev clC (c : Cl) : Array Value := #[vs c.tn, vs c.k, vs c.i, vs c.key, .int .i64 c.ex]
abbrev clV (c : Cl) : Value := .agg (clC c)
def whoF (c : Cl) : Bs := (showO (ba c.k) (ba c.i)).data.toList
def decF (x : Int) : Bs := Lib.itoa x
def okC (c : Cl) : Bool := !(whoF c).isEmpty && nameB (ba c.tn) && nameB (ba c.key) && decide (0 ≤ c.ex) && decide (c.ex ≤ 1000000000000000)
def partsT (c : Cl) : List Bs := [[118, 49], c.tn, whoF c, c.key, decF c.ex]
def textF (c : Cl) : Bs := if okC c = true then joi 47 (partsT c) else []
def signF (secret : Bs) (c : Cl) : Bs := if (textF c).isEmpty = true then [] else textF c ++ 47 :: hexF (macF secret (textF c))
def objA (s : Bs) : Bs := (objF (ba s)).1.data.toList
def objB (s : Bs) : Bs := (objF (ba s)).2.1.data.toList
def numA (s : Bs) : Int := (((Nu.parseF s).getD 0 : Nat) : Int)
/-- what parts say. -/
def clF (l : List Bs) : Cl := ⟨l.getD 1 [], objA (l.getD 2 []), objB (l.getD 2 []), l.getD 3 [], numA (l.getD 4 [])⟩
def claimC (s : Bs) : Cl := if (spl 47 s).length = 5 then clF (spl 47 s) else noC
def claimB (s : Bs) : Bool := if (spl 47 s).length = 5 then textF (clF (spl 47 s)) == s else false
/-- where the last slash stands; -1: nowhere. -/
def lastS (s : Bs) : Int := Lib.lastIndexByte (ba s) 47
def headT (s : Bs) : Bs := s.take (lastS s).toNat
def tailT (s : Bs) : Bs := s.drop ((lastS s).toNat + 1)
/-- what head and tail say. -/
def readR (h x : Bs) : Option (Cl × Bs × Bs) :=
  match unhexF x with
  | some g => if claimB h = true ∧ g.length = 32 then some (claimC h, h, g) else none
  | none => none
def readP (s : Bs) : Option (Cl × Bs × Bs) := if lastS s < 0 ∨ 512 < s.length then none else readR (headT s) (tailT s)
def readD (s : Bs) : Option (Cl × Bs × Bs) :=
  if 512 < s.length ∨ (spl 47 s).length ≠ 6 then none else
    match unhexF ((spl 47 s).getD 5 []) with
    | some g => if (objF (ba ((spl 47 s).getD 2 []))).2.2 = true ∧ (Nu.parseF ((spl 47 s).getD 4 [])).isSome = true ∧ g.length = 32 ∧ textF (clF (spl 47 s)) ≠ [] ∧ textF (clF (spl 47 s)) ++ 47 :: (spl 47 s).getD 5 [] = s then some (clF (spl 47 s), textF (clF (spl 47 s)), g) else none
    | none => none
structure Ky where
  (name bytes : Bs)
  rev : Bool
def findK (keys : List Ky) (n : Bs) : Option Ky := keys.find? fun k => k.name == n
def verF (r : Option (Cl × Bs × Bs)) (keys : List Ky) (now : Int) : Cl × Nat :=
  match r with
  | none => (noC, 3)
  | some (c, t, g) => match findK keys c.key with
    | none => (noC, 14)
    | some k => if k.rev = true then (noC, 14) else if (macF k.bytes t == g) = false then (noC, 15) else if c.ex ≤ now then (noC, 16) else (c, 0)
end Go.Proofs.YthgjhfcafdepcaaGreatDoor.Tk

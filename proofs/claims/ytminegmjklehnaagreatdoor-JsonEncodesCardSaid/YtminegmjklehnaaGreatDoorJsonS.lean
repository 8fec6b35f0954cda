/-
  JSON, plain: what bytes say, what may be encoded, what is written.
-/
import Derived.Lib.DecodeN
import Derived.Lib.DecodeNEq
import Derived.Lib.ValidLaws
namespace Go.Proofs.YtminegmjklehnaaGreatDoor.J
set_option linter.unusedVariables false
set_option linter.unusedSimpArgs false

abbrev Bs := List UInt8
inductive Js where
  | mk (kind n : Int) (text : Bs) (names : List Bs) (nk : Nat) (kid : Fin nk → Js)
def leafJ (k n : Int) (t : Bs) : Js := .mk k n t [] 0 (fun i => i.elim0)
def manyJ (k : Int) (names : List Bs) (kids : List Js) : Js := .mk k 0 [] names kids.length (fun i => kids[i.val])
abbrev P (α : Type) := Bs → Except Int (α × Bs)
abbrev nullJ : Js := leafJ 0 0 []

def isSp (c : UInt8) : Bool := [32, 9, 10, 13].contains c
def isDig (c : UInt8) : Bool := [48, 49, 50, 51, 52, 53, 54, 55, 56, 57].contains c
def sp (L : Bs) : Bs := L.dropWhile isSp

/-! ### numbers -/
def negP : Bs → Bool × Bs
  | [] => (false, [])
  | c :: L => if c == 45 then (true, L) else (false, c :: L)
def digitsP (L : Bs) : Except Int (Bs × Bs) := if (L.takeWhile isDig).isEmpty then .error 3 else .ok (L.takeWhile isDig, L.dropWhile isDig)
def wholeP : Bs → Except Int (Bs × Bs)
  | [] => .error 3
  | c :: L => if c == 48 then .ok ([48], L) else digitsP (c :: L)
def fracP : Bs → Except Int (Bool × Bs)
  | [] => .ok (false, [])
  | c :: L => if c == 46 then (match digitsP L with
    | .error e => .error e
    | .ok (_, M) => .ok (true, M)) else .ok (false, c :: L)
def signP : Bs → Bs
  | [] => []
  | c :: L => if c == 43 || c == 45 then L else c :: L
def expP : Bs → Except Int (Bool × Bs)
  | [] => .ok (false, [])
  | c :: L => if c == 101 || c == 69 then (match digitsP (signP L) with
    | .error e => .error e
    | .ok (_, M) => .ok (true, M)) else .ok (false, c :: L)
def decV (l : Bs) : Int := l.foldl (fun a c => a * 10 + ((c.toNat : Int) - 48)) 0
def numTail (neg : Bool) (wh : Bs) (L : Bs) : Except Int (Int × Bs) := match fracP L with
  | .error e => .error e
  | .ok (f, L3) => match expP L3 with
    | .error e => .error e
    | .ok (x, L4) => if f || x || decide (15 < wh.length) then .error 1 else .ok (if neg then - decV wh else decV wh, L4)
def numP : P Int := fun L => match wholeP (negP L).2 with
  | .error e => .error e
  | .ok (wh, L2) => numTail (negP L).1 wh L2

/-! ### texts -/
/-- how many bytes of a character bytes begin with; 0: none. -/
def charN (L : Bs) : Nat := if L.isEmpty then 0 else if (Lib.decodeL L).1 = 65533 ∧ (Lib.decodeL L).2 = 1 then 0 else (Lib.decodeL L).2
def escOf (c : UInt8) : Option UInt8 := if c == 34 then some 34 else if c == 92 then some 92 else if c == 47 then some 47 else if c == 98 then some 8 else if c == 102 then some 12 else if c == 110 then some 10 else if c == 114 then some 13 else if c == 116 then some 9 else none
def hexD (c : UInt8) : Option Nat := if 48 ≤ c.toNat ∧ c.toNat ≤ 57 then some (c.toNat - 48) else if 97 ≤ c.toNat ∧ c.toNat ≤ 102 then some (c.toNat - 87) else if 65 ≤ c.toNat ∧ c.toNat ≤ 70 then some (c.toNat - 55) else none
def hexP : Bs → Except Int (Nat × Bs)
  | a :: b :: c :: d :: L => match hexD a, hexD b, hexD c, hexD d with
    | some x, some y, some z, some u => .ok (((x * 16 + y) * 16 + z) * 16 + u, L)
    | _, _, _, _ => .error 3
  | _ => .error 3
def utfB (n : Nat) : Bs :=
  if n < 128 then [UInt8.ofNat n]
  else if n < 2048 then [UInt8.ofNat (192 + n / 64), UInt8.ofNat (128 + n % 64)]
  else if n < 65536 then [UInt8.ofNat (224 + n / 4096), UInt8.ofNat (128 + n / 64 % 64), UInt8.ofNat (128 + n % 64)]
  else [UInt8.ofNat (240 + n / 262144), UInt8.ofNat (128 + n / 4096 % 64), UInt8.ofNat (128 + n / 64 % 64), UInt8.ofNat (128 + n % 64)]
def lowP (n : Nat) : Bs → Except Int (Bs × Bs)
  | a :: b :: L => if a == 92 && b == 117 then (match hexP L with
    | .error e => .error e
    | .ok (m, M) => if m < 56320 ∨ 57344 ≤ m then .error 3 else .ok (utfB (65536 + (n - 55296) * 1024 + (m - 56320)), M)) else .error 3
  | _ => .error 3
def uniP (L : Bs) : Except Int (Bs × Bs) := match hexP L with
  | .error e => .error e
  | .ok (n, M) => if 56320 ≤ n ∧ n < 57344 then .error 3 else if 55296 ≤ n ∧ n < 56320 then lowP n M else .ok (utfB n, M)
def escP : Bs → Except Int (Bs × Bs)
  | [] => .error 3
  | c :: L => match escOf c with
    | some m => .ok ([m], L)
    | none => if c == 117 then uniP L else .error 3
def textGo : Nat → Bs → P Bs
  | 0, _, _ => .error 3
  | _ + 1, _, [] => .error 3
  | f + 1, acc, c :: L => if c == 34 then .ok (acc, L) else if c == 92 then (match escP L with
      | .error e => .error e
      | .ok (m, M) => textGo f (acc ++ m) M)
    else if charN (c :: L) = 0 ∨ c.toNat < 32 then .error 3 else textGo f (acc ++ (c :: L).take (charN (c :: L))) ((c :: L).drop (charN (c :: L)))
def textP : P Bs := fun L => match L with
  | [] => .error 3
  | c :: M => if c == 34 then textGo (M.length + 1) [] M else .error 3

/-! ### values -/
def wordP (s : Bs) (j : Js) : P Js := fun L => if s.isPrefixOf L then .ok (j, L.drop s.length) else .error 3
/-- behind an opening bracket and space: piece by piece, up to the end. -/
def insideGo {σ : Type} (one : σ → P σ) (endc : UInt8) : Nat → σ → P σ
  | 0, _, _ => .error 3
  | f + 1, a, L => match one a L with
    | .error e => .error e
    | .ok (a', M) => match sp M with
      | [] => .error 3
      | c :: K => if c == 44 then insideGo one endc f a' (sp K) else if c == endc then .ok (a', K) else .error 3
def insideP {σ : Type} (one : σ → P σ) (endc : UInt8) (a : σ) : P σ := fun L => match sp L with
  | [] => insideGo one endc 1 a []
  | c :: K => if c == endc then .ok (a, K) else insideGo one endc (K.length + 2) a (c :: K)
def oneL (p : P Js) (acc : List Js) : P (List Js) := fun L => match p L with
  | .error e => .error e
  | .ok (x, M) => .ok (acc ++ [x], M)
def pairTail (p : P Js) (s : Bs) (acc : List Bs × List Js) : P (List Bs × List Js) := fun M => match sp M with
  | [] => .error 3
  | c :: K => if c == 58 then (match p (sp K) with
    | .error e => .error e
    | .ok (x, K2) => .ok ((acc.1 ++ [s], acc.2 ++ [x]), K2)) else .error 3
def oneO (p : P Js) (acc : List Bs × List Js) : P (List Bs × List Js) := fun L => match textP L with
  | .error e => .error e
  | .ok (s, M) => if acc.1.contains s then .error 7 else pairTail p s acc M
def listP (p : P Js) : P Js := fun L => match insideP (oneL p) 93 [] L with
  | .error e => .error e
  | .ok (l, M) => .ok (manyJ 4 [] l, M)
def objP (p : P Js) : P Js := fun L => match insideP (oneO p) 125 ([], []) L with
  | .error e => .error e
  | .ok (l, M) => .ok (manyJ 5 l.1 l.2, M)
def numJ : P Js := fun L => match numP L with
  | .error e => .error e
  | .ok (n, M) => .ok (leafJ 2 n [], M)
def textJ : P Js := fun L => match textP L with
  | .error e => .error e
  | .ok (t, M) => .ok (leafJ 3 0 t, M)
def openP (inner : Option (P Js)) (k : P Js → P Js) : P Js := match inner with
  | none => fun _ => .error 9
  | some p => k p
def valueOf (inner : Option (P Js)) : P Js := fun L => match L with
  | [] => numJ []
  | c :: M => if c == 110 then wordP [110, 117, 108, 108] nullJ (c :: M) else if c == 116 then wordP [116, 114, 117, 101] (leafJ 1 1 []) (c :: M) else if c == 102 then wordP [102, 97, 108, 115, 101] (leafJ 1 0 []) (c :: M)
    else if c == 34 then textJ (c :: M) else if c == 91 then openP inner listP M else if c == 123 then openP inner objP M else numJ (c :: M)
def valueP : Nat → P Js
  | 0 => valueOf none
  | d + 1 => valueOf (some (valueP d))
def decodeP (b : Bs) : Except Int Js := match valueP 12 (sp b) with
  | .error e => .error e
  | .ok (j, L) => if (sp L).isEmpty then .ok j else .error 3

/-! ### what may be encoded -/
def andTo {n : Nat} (f : Fin n → Bool) : Nat → Bool
  | 0 => true
  | k + 1 => andTo f k && (if h : k < n then f ⟨k, h⟩ else true)
def validT (t : Bs) : Bool := Lib.validD t
def namesGo (seen : List Bs) : List Bs → Bool
  | [] => true
  | s :: l => validT s && !seen.contains s && namesGo (seen ++ [s]) l
def namesOk (l : List Bs) : Bool := namesGo [] l
def mayJ : Js → Nat → Bool
  | .mk k n t names nk kid, 0 => if k = 0 then true else if k = 1 then n == 0 || n == 1 else if k = 2 then decide (n < 1000000000000000) && decide (-1000000000000000 < n) else if k = 3 then validT t else false
  | .mk k n t names nk kid, d + 1 => if k = 0 then true else if k = 1 then n == 0 || n == 1 else if k = 2 then decide (n < 1000000000000000) && decide (-1000000000000000 < n) else if k = 3 then validT t
    else if k = 4 then andTo (fun i => mayJ (kid i) d) nk
    else if k = 5 then names.length == nk && (namesOk names && andTo (fun i => mayJ (kid i) d) nk) else false
/-! ### what is written -/
def hexC (n : Nat) : UInt8 := if n < 10 then UInt8.ofNat (48 + n) else UInt8.ofNat (87 + n)
def quoteC (c : UInt8) : Bs := if c == 34 then [92, 34] else if c == 92 then [92, 92] else if c == 10 then [92, 110] else if c == 13 then [92, 114] else if c == 9 then [92, 116]
  else if c.toNat < 32 then [92, 117, 48, 48, hexC (c.toNat / 16), hexC (c.toNat % 16)] else [c]
def quoteT (t : Bs) : Bs := 34 :: (t.flatMap quoteC ++ [34])
def natT : Nat → Nat → Bs
  | 0, n => []
  | f + 1, n => if n < 10 then [UInt8.ofNat (48 + n)] else natT f (n / 10) ++ [UInt8.ofNat (48 + n % 10)]
def intT (n : Int) : Bs := if n < 0 then 45 :: natT (n.natAbs + 1) n.natAbs else natT (n.natAbs + 1) n.natAbs
def commas : List Bs → Bs
  | [] => []
  | [x] => x
  | x :: y :: l => x ++ (44 :: commas (y :: l))
def piece (k : Int) (names : List Bs) (i : Nat) (s : Bs) : Bs := if k = 5 then quoteT (names.getD i []) ++ (58 :: s) else s
def showJ : Js → Bs
  | .mk k n t names nk kid => if k = 0 then [110, 117, 108, 108] else if k = 1 then (if n = 1 then [116, 114, 117, 101] else [102, 97, 108, 115, 101]) else if k = 2 then intT n else if k = 3 then quoteT t
    else if k = 5 then 123 :: (commas (List.ofFn (fun i => piece k names i.val (showJ (kid i)))) ++ [125])
    else 91 :: (commas (List.ofFn (fun i => piece k names i.val (showJ (kid i)))) ++ [93])
def encodeP (j : Js) : Bs := if mayJ j 12 then showJ j else []
/-! ### the same -/
def sameJ : Js → Js → Bool
  | .mk k n t names nk kid, .mk k' n' t' names' nk' kid' => k == k' && (if k = 0 then true else if k = 1 ∨ k = 2 then n == n' else if k = 3 then t == t'
    else (k != 5 || names == names') && (if h : nk = nk' then andTo (fun i => sameJ (kid i) (kid' (i.cast h))) nk else false))
end Go.Proofs.YtminegmjklehnaaGreatDoor.J

/-
  No cell of these rows narrows 'for every input' (looked for: loops, veiled, ifaces, maps, wideKeys, modest, calm, conditions, laid).
  DERIVED. THE GIVEN ROWS OF THIS SEAT. 4 by the template 'for every input the law returns true; each argument reads behind the call as it read before'; 0 by the template 'total and deterministic' (their statements: YtfmekhebdpjdkaaTotals.lean).
  GIVEN WITH THE SEED: the statements are not yours to turn. If you find one false, say at which input.
  Laid BY PROGRAM, IN A SANDBOX (cutbox-rows.mjs): the forced cells as the released guide's own fill.sh prints them over the translation 254b4043debe0673… (all of the seat's roots in one cut). By AI agents, Wed Nov 11 2026. No macro, syntax, notation, axiom, sorry.
-/
import Derived.Test.YtfmekhebdpjdkaaChecked
import GoSem.Claim
import GoSem.ClaimJoined
import GoSem.ClaimMapViews
import Derived.JoinedTies
import Derived.KernelRfl
namespace Go.Proofs.Ytfmekhebdpjdkaa
/- THE CELL 'sum', in the pinned program and in every row, IS THE sha256 OF THE DUMP (.gsa) THAT YtfmekhebdpjdkaaProg.lean LOADS. Nothing in Lean hashes anything: it is a label: what it is worth is what the hold of that sum in a sandbox is worth. -/
noncomputable def Try.pinned : Pinned := { name := "ytfmekhebdpjdkaa", sum := "254b4043debe0673deacb6cae95493016a7fd465820aa15abc28572fa11cad98", checked := Try.checked }
namespace Rows
def none {H : Type} : Left H := { results := [], args := [] }

/-- 'conciergelaw17.CacheDoes': WHATEVER THE INPUT: true; the input reads as it did. -/
def cacheDoesSpec : ChangeSpec := { name := "cacheDoes", fn := fun _ => fun
  | [d1, d2] => { results := [.lit (.bool true)], args := [d1, d2] }
  | _ => none }
def cacheDoesRow : OpenClaim := { program := "ytfmekhebdpjdkaa", sum := "254b4043debe0673deacb6cae95493016a7fd465820aa15abc28572fa11cad98", func := "concierge/conciergelaw17.CacheDoes", spec := "cacheDoes", apart := false }
def CacheDoesSaid : Prop := cacheDoesRow.holds Try.pinned (OpenSpec.ofChange cacheDoesSpec)

/-- ITS FALSE NEIGHBOUR: 'it returns false'. Refute it at one input. -/
def cacheDoesWrong : ChangeSpec := { name := "cacheDoes", fn := fun _ => fun
  | [d1, d2] => { results := [.lit (.bool false)], args := [d1, d2] }
  | _ => none }
def CacheDoesWrongFalsely : Prop := cacheDoesRow.holds Try.pinned (OpenSpec.ofChange cacheDoesWrong)

/-- 'conciergelaw17.CacheApart': WHATEVER THE INPUT: true; the input reads as it did. -/
def cacheApartSpec : ChangeSpec := { name := "cacheApart", fn := fun _ => fun
  | [d1, d2, d3] => { results := [.lit (.bool true)], args := [d1, d2, d3] }
  | _ => none }
def cacheApartRow : OpenClaim := { program := "ytfmekhebdpjdkaa", sum := "254b4043debe0673deacb6cae95493016a7fd465820aa15abc28572fa11cad98", func := "concierge/conciergelaw17.CacheApart", spec := "cacheApart", apart := false }
def CacheApartSaid : Prop := cacheApartRow.holds Try.pinned (OpenSpec.ofChange cacheApartSpec)

/-- ITS FALSE NEIGHBOUR: 'it returns false'. Refute it at one input. -/
def cacheApartWrong : ChangeSpec := { name := "cacheApart", fn := fun _ => fun
  | [d1, d2, d3] => { results := [.lit (.bool false)], args := [d1, d2, d3] }
  | _ => none }
def CacheApartWrongFalsely : Prop := cacheApartRow.holds Try.pinned (OpenSpec.ofChange cacheApartWrong)

/-- 'conciergelaw17.CacheTrue': WHATEVER THE INPUT: true; the input reads as it did. -/
def cacheTrueSpec : ChangeSpec := { name := "cacheTrue", fn := fun _ => fun
  | [d1, d2] => { results := [.lit (.bool true)], args := [d1, d2] }
  | _ => none }
def cacheTrueRow : OpenClaim := { program := "ytfmekhebdpjdkaa", sum := "254b4043debe0673deacb6cae95493016a7fd465820aa15abc28572fa11cad98", func := "concierge/conciergelaw17.CacheTrue", spec := "cacheTrue", apart := false }
def CacheTrueSaid : Prop := cacheTrueRow.holds Try.pinned (OpenSpec.ofChange cacheTrueSpec)

/-- ITS FALSE NEIGHBOUR: 'it returns false'. Refute it at one input. -/
def cacheTrueWrong : ChangeSpec := { name := "cacheTrue", fn := fun _ => fun
  | [d1, d2] => { results := [.lit (.bool false)], args := [d1, d2] }
  | _ => none }
def CacheTrueWrongFalsely : Prop := cacheTrueRow.holds Try.pinned (OpenSpec.ofChange cacheTrueWrong)

/-- 'conciergelaw17.CacheBounds': WHATEVER THE INPUT: true; the input reads as it did. -/
def cacheBoundsSpec : ChangeSpec := { name := "cacheBounds", fn := fun _ => fun
  | [d1, d2, d3, d4, d5] => { results := [.lit (.bool true)], args := [d1, d2, d3, d4, d5] }
  | _ => none }
def cacheBoundsRow : OpenClaim := { program := "ytfmekhebdpjdkaa", sum := "254b4043debe0673deacb6cae95493016a7fd465820aa15abc28572fa11cad98", func := "concierge/conciergelaw17.CacheBounds", spec := "cacheBounds", apart := false }
def CacheBoundsSaid : Prop := cacheBoundsRow.holds Try.pinned (OpenSpec.ofChange cacheBoundsSpec)

/-- ITS FALSE NEIGHBOUR: 'it returns false'. Refute it at one input. -/
def cacheBoundsWrong : ChangeSpec := { name := "cacheBounds", fn := fun _ => fun
  | [d1, d2, d3, d4, d5] => { results := [.lit (.bool false)], args := [d1, d2, d3, d4, d5] }
  | _ => none }
def CacheBoundsWrongFalsely : Prop := cacheBoundsRow.holds Try.pinned (OpenSpec.ofChange cacheBoundsWrong)

/- THE SECOND FORM. 'bulk': how many values and letters a reading holds, each counted each time it is reached (what is shared counts as often as it is met; a slice's spare places count too). A statement '..UptoSaid' is the law's where the arguments, and the package variables that the reading takes, are together of bulk at most 1048576: NARROWER than '..Said'. Prove '..Said' where nothing that the law and all that it calls make is longer than what came in: it says more and counts as full. Else prove '..UptoSaid'. A law counts once. -/
mutual
def uptoBulk {H : Type} : DataW H → Nat
  | .lit (.string bytes) => bytes.length + 1
  | .lit _ => 1
  | .nil => 1
  | .ptr d => uptoBulk d + 1
  | .slice elems spare => uptoBulkAll elems + uptoBulkAll spare + 1
  | .agg parts => uptoBulkAll parts + 1
  | .iface _ d => uptoBulk d + 1
  | .map entries => uptoBulkEntries entries + 1
  | .held _ => 1
def uptoBulkAll {H : Type} : List (DataW H) → Nat
  | [] => 0
  | d :: r => uptoBulk d + uptoBulkAll r
def uptoBulkEntries {H : Type} : List (Lit × DataW H) → Nat
  | [] => 0
  | x :: r => uptoBulkEntry x + uptoBulkEntries r
def uptoBulkEntry {H : Type} : Lit × DataW H → Nat
  | (.string bytes, d) => bytes.length + uptoBulk d + 1
  | (_, d) => uptoBulk d + 1
 end
def uptoSmall : (H : Type) → List (DataW H) → Bool := fun _ ds => decide (uptoBulkAll ds ≤ 1048576)
def OpenSpec.upto (s : _root_.Go.ChangeSpec) : _root_.Go.OpenSpec := { _root_.Go.OpenSpec.ofChange s with cond := some uptoSmall }

/-- 'conciergelaw17.CacheDoes', WHERE WHAT IT READS IS OF BULK AT MOST 1048576: true; the input reads as it did. -/
def cacheDoesUptoRow : OpenClaim := { program := "ytfmekhebdpjdkaa", sum := "254b4043debe0673deacb6cae95493016a7fd465820aa15abc28572fa11cad98", func := "concierge/conciergelaw17.CacheDoes", spec := "cacheDoes", apart := false, narrowed := true }
def CacheDoesUptoSaid : Prop := cacheDoesUptoRow.holds Try.pinned (OpenSpec.upto cacheDoesSpec)

/-- 'conciergelaw17.CacheApart', WHERE WHAT IT READS IS OF BULK AT MOST 1048576: true; the input reads as it did. -/
def cacheApartUptoRow : OpenClaim := { program := "ytfmekhebdpjdkaa", sum := "254b4043debe0673deacb6cae95493016a7fd465820aa15abc28572fa11cad98", func := "concierge/conciergelaw17.CacheApart", spec := "cacheApart", apart := false, narrowed := true }
def CacheApartUptoSaid : Prop := cacheApartUptoRow.holds Try.pinned (OpenSpec.upto cacheApartSpec)

/-- 'conciergelaw17.CacheTrue', WHERE WHAT IT READS IS OF BULK AT MOST 1048576: true; the input reads as it did. -/
def cacheTrueUptoRow : OpenClaim := { program := "ytfmekhebdpjdkaa", sum := "254b4043debe0673deacb6cae95493016a7fd465820aa15abc28572fa11cad98", func := "concierge/conciergelaw17.CacheTrue", spec := "cacheTrue", apart := false, narrowed := true }
def CacheTrueUptoSaid : Prop := cacheTrueUptoRow.holds Try.pinned (OpenSpec.upto cacheTrueSpec)

/-- 'conciergelaw17.CacheBounds', WHERE WHAT IT READS IS OF BULK AT MOST 1048576: true; the input reads as it did. -/
def cacheBoundsUptoRow : OpenClaim := { program := "ytfmekhebdpjdkaa", sum := "254b4043debe0673deacb6cae95493016a7fd465820aa15abc28572fa11cad98", func := "concierge/conciergelaw17.CacheBounds", spec := "cacheBounds", apart := false, narrowed := true }
def CacheBoundsUptoSaid : Prop := cacheBoundsUptoRow.holds Try.pinned (OpenSpec.upto cacheBoundsSpec)

end Rows
end Go.Proofs.Ytfmekhebdpjdkaa

/-
  The law NumHexes, walked, for any bytes.
-/
import Derived.Test.YteaapekkoahilaaDoorNumJ
import Derived.Test.YteaapekkoahilaaDoorNumG2
namespace Go.Proofs.YteaapekkoahilaaDoor.Nu
open Go.RowKit Go.Proofs.YteaapekkoahilaaDoor.B Go.Proofs.YteaapekkoahilaaDoor.S01
set_option linter.unusedVariables false
set_option linter.unusedSimpArgs false

set_option maxRecDepth 100000 in
set_option maxHeartbeats 1000000 in
theorem NumHexes_full (A : Option Addr) (n c : Nat) (l : List UInt8) (s : ByteArray) (w : World) (hr : BRead w A n l) (hn : n ≤ 140737488351232) (hs : s.size ≤ 281474976710656) (ht : Tab w) :
    Calls Tryd.prog 3 #[.slice A n c, .string s] w (TruePost w) := by
  have HR := Lib.hid hr; clear hr
  go_enter Tryd.func3, Tryd.ntmps3
  go_wp2_with fail
  refine (awake_calls w ht).mono ?_
  rintro e w1 ⟨rfl, hb1⟩
  go_wp2_with fail
  refine (Unhex_calls s w1 hs).mono ?_
  intro e w2 h
  obtain ⟨v2, rfl, hb2', hc2⟩ := unhex_conv h
  have hb2 := keepB hb1 hb2'
  clear h hb2'
  go_wp2_with fail
  refine (refUnhex_calls s w2 hs).mono ?_
  intro e w3 h
  obtain ⟨v3, rfl, hb3', hc3⟩ := unhex_conv h
  have hb3 := keepB hb2 hb3'
  have HC3 := Lib.hid hc3
  have HC2 := Lib.hid (fun (W : World) (hW : Below w3.heap.size w3 W) => hc2 W (keepB hb3' hW))
  clear h hc2 hc3
  generalize (unhexF s.data.toList).isSome = q
  go_wp2_with fail
  refine (Hex_full A n c l w3 (HR.out.below hb3) hn).mono ?_
  rintro e w4 ⟨rfl, hb4'⟩
  have hb4 := keepB hb3 hb4'
  go_wp2_with fail
  refine (refHex_full A n c l w4 (HR.out.below hb4) hn).mono ?_
  rintro e w5 ⟨rfl, hb5'⟩
  have hb5 := keepB hb4 hb5'
  have c2 := HC2.out w5 (keepB hb4' hb5')
  have c3 := HC3.out w5 (keepB hb4' hb5')
  go_wp2
  go_ret
  exact ⟨rfl, hb5⟩
end Go.Proofs.YteaapekkoahilaaDoor.Nu

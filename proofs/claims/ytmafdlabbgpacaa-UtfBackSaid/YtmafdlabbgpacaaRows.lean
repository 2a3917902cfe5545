/-
  No cell of these rows narrows 'for every input' (looked for: loops, veiled, ifaces, maps, wideKeys, modest, calm, conditions, laid).
  DERIVED. THE GIVEN ROWS OF THIS SEAT. 5 by the template 'for every input the law returns true; each argument reads behind the call as it read before'; 0 by the template 'total and deterministic' (their statements: YtmafdlabbgpacaaTotals.lean).
  GIVEN WITH THE SEED: the statements are not yours to turn. If you find one false, say at which input.
  Laid BY PROGRAM, IN A SANDBOX (cutbox-rows.mjs): the forced cells as the released guide's own fill.sh prints them over the translation 61fd00bb57ab3961… (all of the seat's roots in one cut). By AI agents, Wed Nov 11 2026. No macro, syntax, notation, axiom, sorry.
-/
import Derived.Test.YtmafdlabbgpacaaChecked
import GoSem.Claim
import GoSem.ClaimJoined
import GoSem.ClaimMapViews
import Derived.JoinedTies
import Derived.KernelRfl
namespace Go.Proofs.Ytmafdlabbgpacaa
/- THE CELL 'sum', in the pinned program and in every row, IS THE sha256 OF THE DUMP (.gsa) THAT YtmafdlabbgpacaaProg.lean LOADS. Nothing in Lean hashes anything: it is a label: what it is worth is what the hold of that sum in a sandbox is worth. -/
noncomputable def Try.pinned : Pinned := { name := "ytmafdlabbgpacaa", sum := "61fd00bb57ab3961dbbce3b0fbd2134df0543132df6b0e6ee87cf5c8d56ba907", checked := Try.checked }
namespace Rows
def none {H : Type} : Left H := { results := [], args := [] }

/-- 'pavanelaw07.UtfNexts': WHATEVER THE INPUT: true; the input reads as it did. -/
def utfNextsSpec : ChangeSpec := { name := "utfNexts", fn := fun _ => fun
  | [d1, d2] => { results := [.lit (.bool true)], args := [d1, d2] }
  | _ => none }
def utfNextsRow : OpenClaim := { program := "ytmafdlabbgpacaa", sum := "61fd00bb57ab3961dbbce3b0fbd2134df0543132df6b0e6ee87cf5c8d56ba907", func := "pavane/pavanelaw07.UtfNexts", spec := "utfNexts", unfollowed := true, recurses := true, apart := false }
def UtfNextsSaid : Prop := utfNextsRow.holds Try.pinned (OpenSpec.ofChange utfNextsSpec)

/-- ITS FALSE NEIGHBOUR: 'it returns false'. Refute it at one input. -/
def utfNextsWrong : ChangeSpec := { name := "utfNexts", fn := fun _ => fun
  | [d1, d2] => { results := [.lit (.bool false)], args := [d1, d2] }
  | _ => none }
def UtfNextsWrongFalsely : Prop := utfNextsRow.holds Try.pinned (OpenSpec.ofChange utfNextsWrong)

/-- 'pavanelaw07.UtfBack': WHATEVER THE INPUT: true; the input reads as it did. -/
def utfBackSpec : ChangeSpec := { name := "utfBack", fn := fun _ => fun
  | [d] => { results := [.lit (.bool true)], args := [d] }
  | _ => none }
def utfBackRow : OpenClaim := { program := "ytmafdlabbgpacaa", sum := "61fd00bb57ab3961dbbce3b0fbd2134df0543132df6b0e6ee87cf5c8d56ba907", func := "pavane/pavanelaw07.UtfBack", spec := "utfBack", unfollowed := true, recurses := true, apart := false }
def UtfBackSaid : Prop := utfBackRow.holds Try.pinned (OpenSpec.ofChange utfBackSpec)

/-- ITS FALSE NEIGHBOUR: 'it returns false'. Refute it at one input. -/
def utfBackWrong : ChangeSpec := { name := "utfBack", fn := fun _ => fun
  | [d] => { results := [.lit (.bool false)], args := [d] }
  | _ => none }
def UtfBackWrongFalsely : Prop := utfBackRow.holds Try.pinned (OpenSpec.ofChange utfBackWrong)

/-- 'pavanelaw07.UtfBad': WHATEVER THE INPUT: true; the input reads as it did. -/
def utfBadSpec : ChangeSpec := { name := "utfBad", fn := fun _ => fun
  | [d] => { results := [.lit (.bool true)], args := [d] }
  | _ => none }
def utfBadRow : OpenClaim := { program := "ytmafdlabbgpacaa", sum := "61fd00bb57ab3961dbbce3b0fbd2134df0543132df6b0e6ee87cf5c8d56ba907", func := "pavane/pavanelaw07.UtfBad", spec := "utfBad", unfollowed := true, recurses := true, apart := false }
def UtfBadSaid : Prop := utfBadRow.holds Try.pinned (OpenSpec.ofChange utfBadSpec)

/-- ITS FALSE NEIGHBOUR: 'it returns false'. Refute it at one input. -/
def utfBadWrong : ChangeSpec := { name := "utfBad", fn := fun _ => fun
  | [d] => { results := [.lit (.bool false)], args := [d] }
  | _ => none }
def UtfBadWrongFalsely : Prop := utfBadRow.holds Try.pinned (OpenSpec.ofChange utfBadWrong)

/-- 'pavanelaw07.UtfPlaces': WHATEVER THE INPUT: true; the input reads as it did. -/
def utfPlacesSpec : ChangeSpec := { name := "utfPlaces", fn := fun _ => fun
  | [d1, d2] => { results := [.lit (.bool true)], args := [d1, d2] }
  | _ => none }
def utfPlacesRow : OpenClaim := { program := "ytmafdlabbgpacaa", sum := "61fd00bb57ab3961dbbce3b0fbd2134df0543132df6b0e6ee87cf5c8d56ba907", func := "pavane/pavanelaw07.UtfPlaces", spec := "utfPlaces", unfollowed := true, recurses := true, apart := false }
def UtfPlacesSaid : Prop := utfPlacesRow.holds Try.pinned (OpenSpec.ofChange utfPlacesSpec)

/-- ITS FALSE NEIGHBOUR: 'it returns false'. Refute it at one input. -/
def utfPlacesWrong : ChangeSpec := { name := "utfPlaces", fn := fun _ => fun
  | [d1, d2] => { results := [.lit (.bool false)], args := [d1, d2] }
  | _ => none }
def UtfPlacesWrongFalsely : Prop := utfPlacesRow.holds Try.pinned (OpenSpec.ofChange utfPlacesWrong)

/-- 'pavanelaw07.UtfPuts': WHATEVER THE INPUT: true; the input reads as it did. -/
def utfPutsSpec : ChangeSpec := { name := "utfPuts", fn := fun _ => fun
  | [d] => { results := [.lit (.bool true)], args := [d] }
  | _ => none }
def utfPutsRow : OpenClaim := { program := "ytmafdlabbgpacaa", sum := "61fd00bb57ab3961dbbce3b0fbd2134df0543132df6b0e6ee87cf5c8d56ba907", func := "pavane/pavanelaw07.UtfPuts", spec := "utfPuts", unfollowed := true, recurses := true, apart := false }
def UtfPutsSaid : Prop := utfPutsRow.holds Try.pinned (OpenSpec.ofChange utfPutsSpec)

/-- ITS FALSE NEIGHBOUR: 'it returns false'. Refute it at one input. -/
def utfPutsWrong : ChangeSpec := { name := "utfPuts", fn := fun _ => fun
  | [d] => { results := [.lit (.bool false)], args := [d] }
  | _ => none }
def UtfPutsWrongFalsely : Prop := utfPutsRow.holds Try.pinned (OpenSpec.ofChange utfPutsWrong)

/- THE SECOND FORM. 'bulk': how many values and letters a reading holds, each counted each time it is reached (what is shared counts as often as it is met; a slice's spare places count too). A statement '..UptoSaid' is the law's where the arguments, and the package variables that the reading takes, are together of bulk at most 1048576: NARROWER than '..Said'. Prove '..Said' where nothing that the law and all that it calls make is longer than what came in: it says more and counts as full. Else prove '..UptoSaid'. A law counts once. -/
mutual
def uptoBulk {H : Type} : DataW H → Nat
  | .lit (.string bytes) => bytes.length + 1
  | .lit _ => 1
  | .nil => 1
  | .ptr d => uptoBulk d + 1
  | .slice elems spare => uptoBulkAll elems + uptoBulkAll spare + 1
  | .agg parts => uptoBulkAll parts + 1
  | .iface _ d => uptoBulk d + 1
  | .map entries => uptoBulkEntries entries + 1
  | .held _ => 1
def uptoBulkAll {H : Type} : List (DataW H) → Nat
  | [] => 0
  | d :: r => uptoBulk d + uptoBulkAll r
def uptoBulkEntries {H : Type} : List (Lit × DataW H) → Nat
  | [] => 0
  | x :: r => uptoBulkEntry x + uptoBulkEntries r
def uptoBulkEntry {H : Type} : Lit × DataW H → Nat
  | (.string bytes, d) => bytes.length + uptoBulk d + 1
  | (_, d) => uptoBulk d + 1
 end
def uptoSmall : (H : Type) → List (DataW H) → Bool := fun _ ds => decide (uptoBulkAll ds ≤ 1048576)
def OpenSpec.upto (s : _root_.Go.ChangeSpec) : _root_.Go.OpenSpec := { _root_.Go.OpenSpec.ofChange s with cond := some uptoSmall }

/-- 'pavanelaw07.UtfNexts', WHERE WHAT IT READS IS OF BULK AT MOST 1048576: true; the input reads as it did. -/
def utfNextsUptoRow : OpenClaim := { program := "ytmafdlabbgpacaa", sum := "61fd00bb57ab3961dbbce3b0fbd2134df0543132df6b0e6ee87cf5c8d56ba907", func := "pavane/pavanelaw07.UtfNexts", spec := "utfNexts", unfollowed := true, recurses := true, apart := false, narrowed := true }
def UtfNextsUptoSaid : Prop := utfNextsUptoRow.holds Try.pinned (OpenSpec.upto utfNextsSpec)

/-- 'pavanelaw07.UtfBack', WHERE WHAT IT READS IS OF BULK AT MOST 1048576: true; the input reads as it did. -/
def utfBackUptoRow : OpenClaim := { program := "ytmafdlabbgpacaa", sum := "61fd00bb57ab3961dbbce3b0fbd2134df0543132df6b0e6ee87cf5c8d56ba907", func := "pavane/pavanelaw07.UtfBack", spec := "utfBack", unfollowed := true, recurses := true, apart := false, narrowed := true }
def UtfBackUptoSaid : Prop := utfBackUptoRow.holds Try.pinned (OpenSpec.upto utfBackSpec)

/-- 'pavanelaw07.UtfBad', WHERE WHAT IT READS IS OF BULK AT MOST 1048576: true; the input reads as it did. -/
def utfBadUptoRow : OpenClaim := { program := "ytmafdlabbgpacaa", sum := "61fd00bb57ab3961dbbce3b0fbd2134df0543132df6b0e6ee87cf5c8d56ba907", func := "pavane/pavanelaw07.UtfBad", spec := "utfBad", unfollowed := true, recurses := true, apart := false, narrowed := true }
def UtfBadUptoSaid : Prop := utfBadUptoRow.holds Try.pinned (OpenSpec.upto utfBadSpec)

/-- 'pavanelaw07.UtfPlaces', WHERE WHAT IT READS IS OF BULK AT MOST 1048576: true; the input reads as it did. -/
def utfPlacesUptoRow : OpenClaim := { program := "ytmafdlabbgpacaa", sum := "61fd00bb57ab3961dbbce3b0fbd2134df0543132df6b0e6ee87cf5c8d56ba907", func := "pavane/pavanelaw07.UtfPlaces", spec := "utfPlaces", unfollowed := true, recurses := true, apart := false, narrowed := true }
def UtfPlacesUptoSaid : Prop := utfPlacesUptoRow.holds Try.pinned (OpenSpec.upto utfPlacesSpec)

/-- 'pavanelaw07.UtfPuts', WHERE WHAT IT READS IS OF BULK AT MOST 1048576: true; the input reads as it did. -/
def utfPutsUptoRow : OpenClaim := { program := "ytmafdlabbgpacaa", sum := "61fd00bb57ab3961dbbce3b0fbd2134df0543132df6b0e6ee87cf5c8d56ba907", func := "pavane/pavanelaw07.UtfPuts", spec := "utfPuts", unfollowed := true, recurses := true, apart := false, narrowed := true }
def UtfPutsUptoSaid : Prop := utfPutsUptoRow.holds Try.pinned (OpenSpec.upto utfPutsSpec)

end Rows
end Go.Proofs.Ytmafdlabbgpacaa

/-
  No cell of these rows narrows 'for every input' (looked for: loops, veiled, ifaces, maps, wideKeys, modest, calm, conditions, laid).
  DERIVED. THE GIVEN ROWS OF THIS SEAT. 4 by the template 'for every input the law returns true; each argument reads behind the call as it read before'; 0 by the template 'total and deterministic' (their statements: YtekobigoekfckaaTotals.lean).
  GIVEN WITH THE SEED: the statements are not yours to turn. If you find one false, say at which input.
  Laid BY PROGRAM, IN A SANDBOX (cutbox-rows.mjs): the forced cells as the released guide's own fill.sh prints them over the translation d61672d2643ccec1… (all of the seat's roots in one cut). By AI agents, Wed Nov 11 2026. No macro, syntax, notation, axiom, sorry.
-/
import Derived.Test.YtekobigoekfckaaChecked
import GoSem.Claim
import GoSem.ClaimJoined
import GoSem.ClaimMapViews
import Derived.JoinedTies
import Derived.KernelRfl
namespace Go.Proofs.Ytekobigoekfckaa
/- THE CELL 'sum', in the pinned program and in every row, IS THE sha256 OF THE DUMP (.gsa) THAT YtekobigoekfckaaProg.lean LOADS. Nothing in Lean hashes anything: it is a label: what it is worth is what the hold of that sum in a sandbox is worth. -/
noncomputable def Try.pinned : Pinned := { name := "ytekobigoekfckaa", sum := "d61672d2643ccec102a9382cda72c720c86e99ef701f2bcba3ba12a2e87ac418", checked := Try.checked }
namespace Rows
def none {H : Type} : Left H := { results := [], args := [] }

/-- 'pavanelaw19.AgendaTurned': WHATEVER THE INPUT: true; the input reads as it did. -/
def agendaTurnedSpec : ChangeSpec := { name := "agendaTurned", fn := fun _ => fun
  | [d1, d2] => { results := [.lit (.bool true)], args := [d1, d2] }
  | _ => none }
def agendaTurnedRow : OpenClaim := { program := "ytekobigoekfckaa", sum := "d61672d2643ccec102a9382cda72c720c86e99ef701f2bcba3ba12a2e87ac418", func := "pavane/pavanelaw19.AgendaTurned", spec := "agendaTurned", unfollowed := true, recurses := true, apart := false }
def AgendaTurnedSaid : Prop := agendaTurnedRow.holds Try.pinned (OpenSpec.ofChange agendaTurnedSpec)

/-- ITS FALSE NEIGHBOUR: 'it returns false'. Refute it at one input. -/
def agendaTurnedWrong : ChangeSpec := { name := "agendaTurned", fn := fun _ => fun
  | [d1, d2] => { results := [.lit (.bool false)], args := [d1, d2] }
  | _ => none }
def AgendaTurnedWrongFalsely : Prop := agendaTurnedRow.holds Try.pinned (OpenSpec.ofChange agendaTurnedWrong)

/-- 'pavanelaw19.AgendaKeeps': WHATEVER THE INPUT: true; the input reads as it did. -/
def agendaKeepsSpec : ChangeSpec := { name := "agendaKeeps", fn := fun _ => fun
  | [d] => { results := [.lit (.bool true)], args := [d] }
  | _ => none }
def agendaKeepsRow : OpenClaim := { program := "ytekobigoekfckaa", sum := "d61672d2643ccec102a9382cda72c720c86e99ef701f2bcba3ba12a2e87ac418", func := "pavane/pavanelaw19.AgendaKeeps", spec := "agendaKeeps", unfollowed := true, recurses := true, apart := false }
def AgendaKeepsSaid : Prop := agendaKeepsRow.holds Try.pinned (OpenSpec.ofChange agendaKeepsSpec)

/-- ITS FALSE NEIGHBOUR: 'it returns false'. Refute it at one input. -/
def agendaKeepsWrong : ChangeSpec := { name := "agendaKeeps", fn := fun _ => fun
  | [d] => { results := [.lit (.bool false)], args := [d] }
  | _ => none }
def AgendaKeepsWrongFalsely : Prop := agendaKeepsRow.holds Try.pinned (OpenSpec.ofChange agendaKeepsWrong)

/-- 'pavanelaw19.AgendaPlays': WHATEVER THE INPUT: true; the input reads as it did. -/
def agendaPlaysSpec : ChangeSpec := { name := "agendaPlays", fn := fun _ => fun
  | [d] => { results := [.lit (.bool true)], args := [d] }
  | _ => none }
def agendaPlaysRow : OpenClaim := { program := "ytekobigoekfckaa", sum := "d61672d2643ccec102a9382cda72c720c86e99ef701f2bcba3ba12a2e87ac418", func := "pavane/pavanelaw19.AgendaPlays", spec := "agendaPlays", unfollowed := true, recurses := true, apart := false }
def AgendaPlaysSaid : Prop := agendaPlaysRow.holds Try.pinned (OpenSpec.ofChange agendaPlaysSpec)

/-- ITS FALSE NEIGHBOUR: 'it returns false'. Refute it at one input. -/
def agendaPlaysWrong : ChangeSpec := { name := "agendaPlays", fn := fun _ => fun
  | [d] => { results := [.lit (.bool false)], args := [d] }
  | _ => none }
def AgendaPlaysWrongFalsely : Prop := agendaPlaysRow.holds Try.pinned (OpenSpec.ofChange agendaPlaysWrong)

/-- 'pavanelaw19.AgendaOrder': WHATEVER THE INPUT: true; the input reads as it did. -/
def agendaOrderSpec : ChangeSpec := { name := "agendaOrder", fn := fun _ => fun
  | [d1, d2, d3] => { results := [.lit (.bool true)], args := [d1, d2, d3] }
  | _ => none }
def agendaOrderRow : OpenClaim := { program := "ytekobigoekfckaa", sum := "d61672d2643ccec102a9382cda72c720c86e99ef701f2bcba3ba12a2e87ac418", func := "pavane/pavanelaw19.AgendaOrder", spec := "agendaOrder", unfollowed := true, recurses := true, apart := false }
def AgendaOrderSaid : Prop := agendaOrderRow.holds Try.pinned (OpenSpec.ofChange agendaOrderSpec)

/-- ITS FALSE NEIGHBOUR: 'it returns false'. Refute it at one input. -/
def agendaOrderWrong : ChangeSpec := { name := "agendaOrder", fn := fun _ => fun
  | [d1, d2, d3] => { results := [.lit (.bool false)], args := [d1, d2, d3] }
  | _ => none }
def AgendaOrderWrongFalsely : Prop := agendaOrderRow.holds Try.pinned (OpenSpec.ofChange agendaOrderWrong)

/- THE SECOND FORM. 'bulk': how many values and letters a reading holds, each counted each time it is reached (what is shared counts as often as it is met; a slice's spare places count too). A statement '..UptoSaid' is the law's where the arguments, and the package variables that the reading takes, are together of bulk at most 1048576: NARROWER than '..Said'. Prove '..Said' where nothing that the law and all that it calls make is longer than what came in: it says more and counts as full. Else prove '..UptoSaid'. A law counts once. -/
mutual
def uptoBulk {H : Type} : DataW H → Nat
  | .lit (.string bytes) => bytes.length + 1
  | .lit _ => 1
  | .nil => 1
  | .ptr d => uptoBulk d + 1
  | .slice elems spare => uptoBulkAll elems + uptoBulkAll spare + 1
  | .agg parts => uptoBulkAll parts + 1
  | .iface _ d => uptoBulk d + 1
  | .map entries => uptoBulkEntries entries + 1
  | .held _ => 1
def uptoBulkAll {H : Type} : List (DataW H) → Nat
  | [] => 0
  | d :: r => uptoBulk d + uptoBulkAll r
def uptoBulkEntries {H : Type} : List (Lit × DataW H) → Nat
  | [] => 0
  | x :: r => uptoBulkEntry x + uptoBulkEntries r
def uptoBulkEntry {H : Type} : Lit × DataW H → Nat
  | (.string bytes, d) => bytes.length + uptoBulk d + 1
  | (_, d) => uptoBulk d + 1
 end
def uptoSmall : (H : Type) → List (DataW H) → Bool := fun _ ds => decide (uptoBulkAll ds ≤ 1048576)
def OpenSpec.upto (s : _root_.Go.ChangeSpec) : _root_.Go.OpenSpec := { _root_.Go.OpenSpec.ofChange s with cond := some uptoSmall }

/-- 'pavanelaw19.AgendaTurned', WHERE WHAT IT READS IS OF BULK AT MOST 1048576: true; the input reads as it did. -/
def agendaTurnedUptoRow : OpenClaim := { program := "ytekobigoekfckaa", sum := "d61672d2643ccec102a9382cda72c720c86e99ef701f2bcba3ba12a2e87ac418", func := "pavane/pavanelaw19.AgendaTurned", spec := "agendaTurned", unfollowed := true, recurses := true, apart := false, narrowed := true }
def AgendaTurnedUptoSaid : Prop := agendaTurnedUptoRow.holds Try.pinned (OpenSpec.upto agendaTurnedSpec)

/-- 'pavanelaw19.AgendaKeeps', WHERE WHAT IT READS IS OF BULK AT MOST 1048576: true; the input reads as it did. -/
def agendaKeepsUptoRow : OpenClaim := { program := "ytekobigoekfckaa", sum := "d61672d2643ccec102a9382cda72c720c86e99ef701f2bcba3ba12a2e87ac418", func := "pavane/pavanelaw19.AgendaKeeps", spec := "agendaKeeps", unfollowed := true, recurses := true, apart := false, narrowed := true }
def AgendaKeepsUptoSaid : Prop := agendaKeepsUptoRow.holds Try.pinned (OpenSpec.upto agendaKeepsSpec)

/-- 'pavanelaw19.AgendaPlays', WHERE WHAT IT READS IS OF BULK AT MOST 1048576: true; the input reads as it did. -/
def agendaPlaysUptoRow : OpenClaim := { program := "ytekobigoekfckaa", sum := "d61672d2643ccec102a9382cda72c720c86e99ef701f2bcba3ba12a2e87ac418", func := "pavane/pavanelaw19.AgendaPlays", spec := "agendaPlays", unfollowed := true, recurses := true, apart := false, narrowed := true }
def AgendaPlaysUptoSaid : Prop := agendaPlaysUptoRow.holds Try.pinned (OpenSpec.upto agendaPlaysSpec)

/-- 'pavanelaw19.AgendaOrder', WHERE WHAT IT READS IS OF BULK AT MOST 1048576: true; the input reads as it did. -/
def agendaOrderUptoRow : OpenClaim := { program := "ytekobigoekfckaa", sum := "d61672d2643ccec102a9382cda72c720c86e99ef701f2bcba3ba12a2e87ac418", func := "pavane/pavanelaw19.AgendaOrder", spec := "agendaOrder", unfollowed := true, recurses := true, apart := false, narrowed := true }
def AgendaOrderUptoSaid : Prop := agendaOrderUptoRow.holds Try.pinned (OpenSpec.upto agendaOrderSpec)

end Rows
end Go.Proofs.Ytekobigoekfckaa

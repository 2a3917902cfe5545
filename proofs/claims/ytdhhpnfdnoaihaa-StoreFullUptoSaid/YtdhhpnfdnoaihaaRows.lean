/-
  No cell of these rows narrows 'for every input' (looked for: loops, veiled, ifaces, maps, wideKeys, modest, calm, conditions, laid).
  DERIVED. THE GIVEN ROWS OF THIS SEAT. 17 by the template 'for every input the law returns true; each argument reads behind the call as it read before'; 0 by the template 'total and deterministic' (their statements: YtdhhpnfdnoaihaaTotals.lean).
  GIVEN WITH THE SEED: the statements are not yours to turn. If you find one false, say at which input.
  Laid BY PROGRAM, IN A SANDBOX (cutbox-rows.mjs): the forced cells as the released guide's own fill.sh prints them over the translation 0e5eca8d68e063d9… (all of the seat's roots in one cut). By AI agents, Wed Nov 11 2026. No macro, syntax, notation, axiom, sorry.
-/
import Derived.Test.YtdhhpnfdnoaihaaChecked
import GoSem.Claim
import GoSem.ClaimJoined
import GoSem.ClaimMapViews
import Derived.JoinedTies
import Derived.KernelRfl
namespace Go.Proofs.Ytdhhpnfdnoaihaa
/- THE CELL 'sum', in the pinned program and in every row, IS THE sha256 OF THE DUMP (.gsa) THAT YtdhhpnfdnoaihaaProg.lean LOADS. Nothing in Lean hashes anything: it is a label: what it is worth is what the hold of that sum in a sandbox is worth. -/
noncomputable def Try.pinned : Pinned := { name := "ytdhhpnfdnoaihaa", sum := "0e5eca8d68e063d9c331a8ecc1f65c0689b719ec12d2201e51f5a61a1f03ac96", checked := Try.checked }
namespace Rows
def none {H : Type} : Left H := { results := [], args := [] }

/-- 'pavanelaw02.CrcSteps': WHATEVER THE INPUT: true; the input reads as it did. -/
def crcStepsSpec : ChangeSpec := { name := "crcSteps", fn := fun _ => fun
  | [d1, d2] => { results := [.lit (.bool true)], args := [d1, d2] }
  | _ => none }
def crcStepsRow : OpenClaim := { program := "ytdhhpnfdnoaihaa", sum := "0e5eca8d68e063d9c331a8ecc1f65c0689b719ec12d2201e51f5a61a1f03ac96", func := "pavane/pavanelaw02.CrcSteps", spec := "crcSteps", apart := false }
def CrcStepsSaid : Prop := crcStepsRow.holds Try.pinned (OpenSpec.ofChange crcStepsSpec)

/-- ITS FALSE NEIGHBOUR: 'it returns false'. Refute it at one input. -/
def crcStepsWrong : ChangeSpec := { name := "crcSteps", fn := fun _ => fun
  | [d1, d2] => { results := [.lit (.bool false)], args := [d1, d2] }
  | _ => none }
def CrcStepsWrongFalsely : Prop := crcStepsRow.holds Try.pinned (OpenSpec.ofChange crcStepsWrong)

/-- 'pavanelaw02.CrcSums': WHATEVER THE INPUT: true; the input reads as it did. -/
def crcSumsSpec : ChangeSpec := { name := "crcSums", fn := fun _ => fun
  | [d1, d2] => { results := [.lit (.bool true)], args := [d1, d2] }
  | _ => none }
def crcSumsRow : OpenClaim := { program := "ytdhhpnfdnoaihaa", sum := "0e5eca8d68e063d9c331a8ecc1f65c0689b719ec12d2201e51f5a61a1f03ac96", func := "pavane/pavanelaw02.CrcSums", spec := "crcSums", apart := false }
def CrcSumsSaid : Prop := crcSumsRow.holds Try.pinned (OpenSpec.ofChange crcSumsSpec)

/-- ITS FALSE NEIGHBOUR: 'it returns false'. Refute it at one input. -/
def crcSumsWrong : ChangeSpec := { name := "crcSums", fn := fun _ => fun
  | [d1, d2] => { results := [.lit (.bool false)], args := [d1, d2] }
  | _ => none }
def CrcSumsWrongFalsely : Prop := crcSumsRow.holds Try.pinned (OpenSpec.ofChange crcSumsWrong)

/-- 'pavanelaw02.CrcJoins': WHATEVER THE INPUT: true; the input reads as it did. -/
def crcJoinsSpec : ChangeSpec := { name := "crcJoins", fn := fun _ => fun
  | [d1, d2] => { results := [.lit (.bool true)], args := [d1, d2] }
  | _ => none }
def crcJoinsRow : OpenClaim := { program := "ytdhhpnfdnoaihaa", sum := "0e5eca8d68e063d9c331a8ecc1f65c0689b719ec12d2201e51f5a61a1f03ac96", func := "pavane/pavanelaw02.CrcJoins", spec := "crcJoins", apart := false }
def CrcJoinsSaid : Prop := crcJoinsRow.holds Try.pinned (OpenSpec.ofChange crcJoinsSpec)

/-- ITS FALSE NEIGHBOUR: 'it returns false'. Refute it at one input. -/
def crcJoinsWrong : ChangeSpec := { name := "crcJoins", fn := fun _ => fun
  | [d1, d2] => { results := [.lit (.bool false)], args := [d1, d2] }
  | _ => none }
def CrcJoinsWrongFalsely : Prop := crcJoinsRow.holds Try.pinned (OpenSpec.ofChange crcJoinsWrong)

/-- 'pavanelaw02.CrcFinds': WHATEVER THE INPUT: true; the input reads as it did. -/
def crcFindsSpec : ChangeSpec := { name := "crcFinds", fn := fun _ => fun
  | [d1, d2, d3] => { results := [.lit (.bool true)], args := [d1, d2, d3] }
  | _ => none }
def crcFindsRow : OpenClaim := { program := "ytdhhpnfdnoaihaa", sum := "0e5eca8d68e063d9c331a8ecc1f65c0689b719ec12d2201e51f5a61a1f03ac96", func := "pavane/pavanelaw02.CrcFinds", spec := "crcFinds", apart := false }
def CrcFindsSaid : Prop := crcFindsRow.holds Try.pinned (OpenSpec.ofChange crcFindsSpec)

/-- ITS FALSE NEIGHBOUR: 'it returns false'. Refute it at one input. -/
def crcFindsWrong : ChangeSpec := { name := "crcFinds", fn := fun _ => fun
  | [d1, d2, d3] => { results := [.lit (.bool false)], args := [d1, d2, d3] }
  | _ => none }
def CrcFindsWrongFalsely : Prop := crcFindsRow.holds Try.pinned (OpenSpec.ofChange crcFindsWrong)

/-- 'pavanelaw02.CrcBack': WHATEVER THE INPUT: true; the input reads as it did. -/
def crcBackSpec : ChangeSpec := { name := "crcBack", fn := fun _ => fun
  | [d1, d2, d3] => { results := [.lit (.bool true)], args := [d1, d2, d3] }
  | _ => none }
def crcBackRow : OpenClaim := { program := "ytdhhpnfdnoaihaa", sum := "0e5eca8d68e063d9c331a8ecc1f65c0689b719ec12d2201e51f5a61a1f03ac96", func := "pavane/pavanelaw02.CrcBack", spec := "crcBack", apart := false }
def CrcBackSaid : Prop := crcBackRow.holds Try.pinned (OpenSpec.ofChange crcBackSpec)

/-- ITS FALSE NEIGHBOUR: 'it returns false'. Refute it at one input. -/
def crcBackWrong : ChangeSpec := { name := "crcBack", fn := fun _ => fun
  | [d1, d2, d3] => { results := [.lit (.bool false)], args := [d1, d2, d3] }
  | _ => none }
def CrcBackWrongFalsely : Prop := crcBackRow.holds Try.pinned (OpenSpec.ofChange crcBackWrong)

/-- 'pavanelaw03.DiskArmed': WHATEVER THE INPUT: true; the input reads as it did. -/
def diskArmedSpec : ChangeSpec := { name := "diskArmed", fn := fun _ => fun
  | [d1, d2] => { results := [.lit (.bool true)], args := [d1, d2] }
  | _ => none }
def diskArmedRow : OpenClaim := { program := "ytdhhpnfdnoaihaa", sum := "0e5eca8d68e063d9c331a8ecc1f65c0689b719ec12d2201e51f5a61a1f03ac96", func := "pavane/pavanelaw03.DiskArmed", spec := "diskArmed", apart := false }
def DiskArmedSaid : Prop := diskArmedRow.holds Try.pinned (OpenSpec.ofChange diskArmedSpec)

/-- ITS FALSE NEIGHBOUR: 'it returns false'. Refute it at one input. -/
def diskArmedWrong : ChangeSpec := { name := "diskArmed", fn := fun _ => fun
  | [d1, d2] => { results := [.lit (.bool false)], args := [d1, d2] }
  | _ => none }
def DiskArmedWrongFalsely : Prop := diskArmedRow.holds Try.pinned (OpenSpec.ofChange diskArmedWrong)

/-- 'pavanelaw03.DiskLasts': WHATEVER THE INPUT: true; the input reads as it did. -/
def diskLastsSpec : ChangeSpec := { name := "diskLasts", fn := fun _ => fun
  | [d1, d2] => { results := [.lit (.bool true)], args := [d1, d2] }
  | _ => none }
def diskLastsRow : OpenClaim := { program := "ytdhhpnfdnoaihaa", sum := "0e5eca8d68e063d9c331a8ecc1f65c0689b719ec12d2201e51f5a61a1f03ac96", func := "pavane/pavanelaw03.DiskLasts", spec := "diskLasts", apart := false }
def DiskLastsSaid : Prop := diskLastsRow.holds Try.pinned (OpenSpec.ofChange diskLastsSpec)

/-- ITS FALSE NEIGHBOUR: 'it returns false'. Refute it at one input. -/
def diskLastsWrong : ChangeSpec := { name := "diskLasts", fn := fun _ => fun
  | [d1, d2] => { results := [.lit (.bool false)], args := [d1, d2] }
  | _ => none }
def DiskLastsWrongFalsely : Prop := diskLastsRow.holds Try.pinned (OpenSpec.ofChange diskLastsWrong)

/-- 'pavanelaw03.DiskKeeps': WHATEVER THE INPUT: true; the input reads as it did. -/
def diskKeepsSpec : ChangeSpec := { name := "diskKeeps", fn := fun _ => fun
  | [d] => { results := [.lit (.bool true)], args := [d] }
  | _ => none }
def diskKeepsRow : OpenClaim := { program := "ytdhhpnfdnoaihaa", sum := "0e5eca8d68e063d9c331a8ecc1f65c0689b719ec12d2201e51f5a61a1f03ac96", func := "pavane/pavanelaw03.DiskKeeps", spec := "diskKeeps", apart := false }
def DiskKeepsSaid : Prop := diskKeepsRow.holds Try.pinned (OpenSpec.ofChange diskKeepsSpec)

/-- ITS FALSE NEIGHBOUR: 'it returns false'. Refute it at one input. -/
def diskKeepsWrong : ChangeSpec := { name := "diskKeeps", fn := fun _ => fun
  | [d] => { results := [.lit (.bool false)], args := [d] }
  | _ => none }
def DiskKeepsWrongFalsely : Prop := diskKeepsRow.holds Try.pinned (OpenSpec.ofChange diskKeepsWrong)

/-- 'pavanelaw03.DiskPlays': WHATEVER THE INPUT: true; the input reads as it did. -/
def diskPlaysSpec : ChangeSpec := { name := "diskPlays", fn := fun _ => fun
  | [d1, d2] => { results := [.lit (.bool true)], args := [d1, d2] }
  | _ => none }
def diskPlaysRow : OpenClaim := { program := "ytdhhpnfdnoaihaa", sum := "0e5eca8d68e063d9c331a8ecc1f65c0689b719ec12d2201e51f5a61a1f03ac96", func := "pavane/pavanelaw03.DiskPlays", spec := "diskPlays", apart := false }
def DiskPlaysSaid : Prop := diskPlaysRow.holds Try.pinned (OpenSpec.ofChange diskPlaysSpec)

/-- ITS FALSE NEIGHBOUR: 'it returns false'. Refute it at one input. -/
def diskPlaysWrong : ChangeSpec := { name := "diskPlays", fn := fun _ => fun
  | [d1, d2] => { results := [.lit (.bool false)], args := [d1, d2] }
  | _ => none }
def DiskPlaysWrongFalsely : Prop := diskPlaysRow.holds Try.pinned (OpenSpec.ofChange diskPlaysWrong)

/-- 'pavanelaw05.JournalSpoilt': WHATEVER THE INPUT: true; the input reads as it did. -/
def journalSpoiltSpec : ChangeSpec := { name := "journalSpoilt", fn := fun _ => fun
  | [d1, d2, d3, d4] => { results := [.lit (.bool true)], args := [d1, d2, d3, d4] }
  | _ => none }
def journalSpoiltRow : OpenClaim := { program := "ytdhhpnfdnoaihaa", sum := "0e5eca8d68e063d9c331a8ecc1f65c0689b719ec12d2201e51f5a61a1f03ac96", func := "pavane/pavanelaw05.JournalSpoilt", spec := "journalSpoilt", unfollowed := true, recurses := true, apart := false }
def JournalSpoiltSaid : Prop := journalSpoiltRow.holds Try.pinned (OpenSpec.ofChange journalSpoiltSpec)

/-- ITS FALSE NEIGHBOUR: 'it returns false'. Refute it at one input. -/
def journalSpoiltWrong : ChangeSpec := { name := "journalSpoilt", fn := fun _ => fun
  | [d1, d2, d3, d4] => { results := [.lit (.bool false)], args := [d1, d2, d3, d4] }
  | _ => none }
def JournalSpoiltWrongFalsely : Prop := journalSpoiltRow.holds Try.pinned (OpenSpec.ofChange journalSpoiltWrong)

/-- 'pavanelaw05.JournalKeeps': WHATEVER THE INPUT: true; the input reads as it did. -/
def journalKeepsSpec : ChangeSpec := { name := "journalKeeps", fn := fun _ => fun
  | [d] => { results := [.lit (.bool true)], args := [d] }
  | _ => none }
def journalKeepsRow : OpenClaim := { program := "ytdhhpnfdnoaihaa", sum := "0e5eca8d68e063d9c331a8ecc1f65c0689b719ec12d2201e51f5a61a1f03ac96", func := "pavane/pavanelaw05.JournalKeeps", spec := "journalKeeps", unfollowed := true, recurses := true, apart := false }
def JournalKeepsSaid : Prop := journalKeepsRow.holds Try.pinned (OpenSpec.ofChange journalKeepsSpec)

/-- ITS FALSE NEIGHBOUR: 'it returns false'. Refute it at one input. -/
def journalKeepsWrong : ChangeSpec := { name := "journalKeeps", fn := fun _ => fun
  | [d] => { results := [.lit (.bool false)], args := [d] }
  | _ => none }
def JournalKeepsWrongFalsely : Prop := journalKeepsRow.holds Try.pinned (OpenSpec.ofChange journalKeepsWrong)

/-- 'pavanelaw05.JournalRoom': WHATEVER THE INPUT: true; the input reads as it did. -/
def journalRoomSpec : ChangeSpec := { name := "journalRoom", fn := fun _ => fun
  | [d1, d2] => { results := [.lit (.bool true)], args := [d1, d2] }
  | _ => none }
def journalRoomRow : OpenClaim := { program := "ytdhhpnfdnoaihaa", sum := "0e5eca8d68e063d9c331a8ecc1f65c0689b719ec12d2201e51f5a61a1f03ac96", func := "pavane/pavanelaw05.JournalRoom", spec := "journalRoom", unfollowed := true, recurses := true, apart := false }
def JournalRoomSaid : Prop := journalRoomRow.holds Try.pinned (OpenSpec.ofChange journalRoomSpec)

/-- ITS FALSE NEIGHBOUR: 'it returns false'. Refute it at one input. -/
def journalRoomWrong : ChangeSpec := { name := "journalRoom", fn := fun _ => fun
  | [d1, d2] => { results := [.lit (.bool false)], args := [d1, d2] }
  | _ => none }
def JournalRoomWrongFalsely : Prop := journalRoomRow.holds Try.pinned (OpenSpec.ofChange journalRoomWrong)

/-- 'pavanelaw05.JournalTorn': WHATEVER THE INPUT: true; the input reads as it did. -/
def journalTornSpec : ChangeSpec := { name := "journalTorn", fn := fun _ => fun
  | [d1, d2, d3] => { results := [.lit (.bool true)], args := [d1, d2, d3] }
  | _ => none }
def journalTornRow : OpenClaim := { program := "ytdhhpnfdnoaihaa", sum := "0e5eca8d68e063d9c331a8ecc1f65c0689b719ec12d2201e51f5a61a1f03ac96", func := "pavane/pavanelaw05.JournalTorn", spec := "journalTorn", unfollowed := true, recurses := true, apart := false }
def JournalTornSaid : Prop := journalTornRow.holds Try.pinned (OpenSpec.ofChange journalTornSpec)

/-- ITS FALSE NEIGHBOUR: 'it returns false'. Refute it at one input. -/
def journalTornWrong : ChangeSpec := { name := "journalTorn", fn := fun _ => fun
  | [d1, d2, d3] => { results := [.lit (.bool false)], args := [d1, d2, d3] }
  | _ => none }
def JournalTornWrongFalsely : Prop := journalTornRow.holds Try.pinned (OpenSpec.ofChange journalTornWrong)

/-- 'pavanelaw06.StoreFinds': WHATEVER THE INPUT: true; the input reads as it did. -/
def storeFindsSpec : ChangeSpec := { name := "storeFinds", fn := fun _ => fun
  | [d1, d2, d3] => { results := [.lit (.bool true)], args := [d1, d2, d3] }
  | _ => none }
def storeFindsRow : OpenClaim := { program := "ytdhhpnfdnoaihaa", sum := "0e5eca8d68e063d9c331a8ecc1f65c0689b719ec12d2201e51f5a61a1f03ac96", func := "pavane/pavanelaw06.StoreFinds", spec := "storeFinds", inPlace := ["internal/bytealg.abigen_runtime_cmpstring", "slices.overlaps[pavane/store.Change]"], unfollowed := true, recurses := true, apart := false }
def StoreFindsSaid : Prop := storeFindsRow.holds Try.pinned (OpenSpec.ofChange storeFindsSpec)

/-- ITS FALSE NEIGHBOUR: 'it returns false'. Refute it at one input. -/
def storeFindsWrong : ChangeSpec := { name := "storeFinds", fn := fun _ => fun
  | [d1, d2, d3] => { results := [.lit (.bool false)], args := [d1, d2, d3] }
  | _ => none }
def StoreFindsWrongFalsely : Prop := storeFindsRow.holds Try.pinned (OpenSpec.ofChange storeFindsWrong)

/-- 'pavanelaw06.StoreGoesOn': WHATEVER THE INPUT: true; the input reads as it did. -/
def storeGoesOnSpec : ChangeSpec := { name := "storeGoesOn", fn := fun _ => fun
  | [d] => { results := [.lit (.bool true)], args := [d] }
  | _ => none }
def storeGoesOnRow : OpenClaim := { program := "ytdhhpnfdnoaihaa", sum := "0e5eca8d68e063d9c331a8ecc1f65c0689b719ec12d2201e51f5a61a1f03ac96", func := "pavane/pavanelaw06.StoreGoesOn", spec := "storeGoesOn", inPlace := ["internal/bytealg.abigen_runtime_cmpstring", "slices.overlaps[pavane/store.Change]"], unfollowed := true, recurses := true, apart := false }
def StoreGoesOnSaid : Prop := storeGoesOnRow.holds Try.pinned (OpenSpec.ofChange storeGoesOnSpec)

/-- ITS FALSE NEIGHBOUR: 'it returns false'. Refute it at one input. -/
def storeGoesOnWrong : ChangeSpec := { name := "storeGoesOn", fn := fun _ => fun
  | [d] => { results := [.lit (.bool false)], args := [d] }
  | _ => none }
def StoreGoesOnWrongFalsely : Prop := storeGoesOnRow.holds Try.pinned (OpenSpec.ofChange storeGoesOnWrong)

/-- 'pavanelaw06.StoreKeeps': WHATEVER THE INPUT: true; the input reads as it did. -/
def storeKeepsSpec : ChangeSpec := { name := "storeKeeps", fn := fun _ => fun
  | [d] => { results := [.lit (.bool true)], args := [d] }
  | _ => none }
def storeKeepsRow : OpenClaim := { program := "ytdhhpnfdnoaihaa", sum := "0e5eca8d68e063d9c331a8ecc1f65c0689b719ec12d2201e51f5a61a1f03ac96", func := "pavane/pavanelaw06.StoreKeeps", spec := "storeKeeps", inPlace := ["internal/bytealg.abigen_runtime_cmpstring", "slices.overlaps[pavane/store.Change]"], unfollowed := true, recurses := true, apart := false }
def StoreKeepsSaid : Prop := storeKeepsRow.holds Try.pinned (OpenSpec.ofChange storeKeepsSpec)

/-- ITS FALSE NEIGHBOUR: 'it returns false'. Refute it at one input. -/
def storeKeepsWrong : ChangeSpec := { name := "storeKeeps", fn := fun _ => fun
  | [d] => { results := [.lit (.bool false)], args := [d] }
  | _ => none }
def StoreKeepsWrongFalsely : Prop := storeKeepsRow.holds Try.pinned (OpenSpec.ofChange storeKeepsWrong)

/-- 'pavanelaw06.StoreFull': WHATEVER THE INPUT: true; the input reads as it did. -/
def storeFullSpec : ChangeSpec := { name := "storeFull", fn := fun _ => fun
  | [d1, d2, d3] => { results := [.lit (.bool true)], args := [d1, d2, d3] }
  | _ => none }
def storeFullRow : OpenClaim := { program := "ytdhhpnfdnoaihaa", sum := "0e5eca8d68e063d9c331a8ecc1f65c0689b719ec12d2201e51f5a61a1f03ac96", func := "pavane/pavanelaw06.StoreFull", spec := "storeFull", inPlace := ["internal/bytealg.abigen_runtime_cmpstring", "slices.overlaps[pavane/store.Change]"], unfollowed := true, recurses := true, apart := false }
def StoreFullSaid : Prop := storeFullRow.holds Try.pinned (OpenSpec.ofChange storeFullSpec)

/-- ITS FALSE NEIGHBOUR: 'it returns false'. Refute it at one input. -/
def storeFullWrong : ChangeSpec := { name := "storeFull", fn := fun _ => fun
  | [d1, d2, d3] => { results := [.lit (.bool false)], args := [d1, d2, d3] }
  | _ => none }
def StoreFullWrongFalsely : Prop := storeFullRow.holds Try.pinned (OpenSpec.ofChange storeFullWrong)

/- THE SECOND FORM. 'bulk': how many values and letters a reading holds, each counted each time it is reached (what is shared counts as often as it is met; a slice's spare places count too). A statement '..UptoSaid' is the law's where the arguments, and the package variables that the reading takes, are together of bulk at most 1048576: NARROWER than '..Said'. Prove '..Said' where nothing that the law and all that it calls make is longer than what came in: it says more and counts as full. Else prove '..UptoSaid'. A law counts once. -/
mutual
def uptoBulk {H : Type} : DataW H → Nat
  | .lit (.string bytes) => bytes.length + 1
  | .lit _ => 1
  | .nil => 1
  | .ptr d => uptoBulk d + 1
  | .slice elems spare => uptoBulkAll elems + uptoBulkAll spare + 1
  | .agg parts => uptoBulkAll parts + 1
  | .iface _ d => uptoBulk d + 1
  | .map entries => uptoBulkEntries entries + 1
  | .held _ => 1
def uptoBulkAll {H : Type} : List (DataW H) → Nat
  | [] => 0
  | d :: r => uptoBulk d + uptoBulkAll r
def uptoBulkEntries {H : Type} : List (Lit × DataW H) → Nat
  | [] => 0
  | x :: r => uptoBulkEntry x + uptoBulkEntries r
def uptoBulkEntry {H : Type} : Lit × DataW H → Nat
  | (.string bytes, d) => bytes.length + uptoBulk d + 1
  | (_, d) => uptoBulk d + 1
 end
def uptoSmall : (H : Type) → List (DataW H) → Bool := fun _ ds => decide (uptoBulkAll ds ≤ 1048576)
def OpenSpec.upto (s : _root_.Go.ChangeSpec) : _root_.Go.OpenSpec := { _root_.Go.OpenSpec.ofChange s with cond := some uptoSmall }

/-- 'pavanelaw02.CrcSteps', WHERE WHAT IT READS IS OF BULK AT MOST 1048576: true; the input reads as it did. -/
def crcStepsUptoRow : OpenClaim := { program := "ytdhhpnfdnoaihaa", sum := "0e5eca8d68e063d9c331a8ecc1f65c0689b719ec12d2201e51f5a61a1f03ac96", func := "pavane/pavanelaw02.CrcSteps", spec := "crcSteps", apart := false, narrowed := true }
def CrcStepsUptoSaid : Prop := crcStepsUptoRow.holds Try.pinned (OpenSpec.upto crcStepsSpec)

/-- 'pavanelaw02.CrcSums', WHERE WHAT IT READS IS OF BULK AT MOST 1048576: true; the input reads as it did. -/
def crcSumsUptoRow : OpenClaim := { program := "ytdhhpnfdnoaihaa", sum := "0e5eca8d68e063d9c331a8ecc1f65c0689b719ec12d2201e51f5a61a1f03ac96", func := "pavane/pavanelaw02.CrcSums", spec := "crcSums", apart := false, narrowed := true }
def CrcSumsUptoSaid : Prop := crcSumsUptoRow.holds Try.pinned (OpenSpec.upto crcSumsSpec)

/-- 'pavanelaw02.CrcJoins', WHERE WHAT IT READS IS OF BULK AT MOST 1048576: true; the input reads as it did. -/
def crcJoinsUptoRow : OpenClaim := { program := "ytdhhpnfdnoaihaa", sum := "0e5eca8d68e063d9c331a8ecc1f65c0689b719ec12d2201e51f5a61a1f03ac96", func := "pavane/pavanelaw02.CrcJoins", spec := "crcJoins", apart := false, narrowed := true }
def CrcJoinsUptoSaid : Prop := crcJoinsUptoRow.holds Try.pinned (OpenSpec.upto crcJoinsSpec)

/-- 'pavanelaw02.CrcFinds', WHERE WHAT IT READS IS OF BULK AT MOST 1048576: true; the input reads as it did. -/
def crcFindsUptoRow : OpenClaim := { program := "ytdhhpnfdnoaihaa", sum := "0e5eca8d68e063d9c331a8ecc1f65c0689b719ec12d2201e51f5a61a1f03ac96", func := "pavane/pavanelaw02.CrcFinds", spec := "crcFinds", apart := false, narrowed := true }
def CrcFindsUptoSaid : Prop := crcFindsUptoRow.holds Try.pinned (OpenSpec.upto crcFindsSpec)

/-- 'pavanelaw02.CrcBack', WHERE WHAT IT READS IS OF BULK AT MOST 1048576: true; the input reads as it did. -/
def crcBackUptoRow : OpenClaim := { program := "ytdhhpnfdnoaihaa", sum := "0e5eca8d68e063d9c331a8ecc1f65c0689b719ec12d2201e51f5a61a1f03ac96", func := "pavane/pavanelaw02.CrcBack", spec := "crcBack", apart := false, narrowed := true }
def CrcBackUptoSaid : Prop := crcBackUptoRow.holds Try.pinned (OpenSpec.upto crcBackSpec)

/-- 'pavanelaw03.DiskArmed', WHERE WHAT IT READS IS OF BULK AT MOST 1048576: true; the input reads as it did. -/
def diskArmedUptoRow : OpenClaim := { program := "ytdhhpnfdnoaihaa", sum := "0e5eca8d68e063d9c331a8ecc1f65c0689b719ec12d2201e51f5a61a1f03ac96", func := "pavane/pavanelaw03.DiskArmed", spec := "diskArmed", apart := false, narrowed := true }
def DiskArmedUptoSaid : Prop := diskArmedUptoRow.holds Try.pinned (OpenSpec.upto diskArmedSpec)

/-- 'pavanelaw03.DiskLasts', WHERE WHAT IT READS IS OF BULK AT MOST 1048576: true; the input reads as it did. -/
def diskLastsUptoRow : OpenClaim := { program := "ytdhhpnfdnoaihaa", sum := "0e5eca8d68e063d9c331a8ecc1f65c0689b719ec12d2201e51f5a61a1f03ac96", func := "pavane/pavanelaw03.DiskLasts", spec := "diskLasts", apart := false, narrowed := true }
def DiskLastsUptoSaid : Prop := diskLastsUptoRow.holds Try.pinned (OpenSpec.upto diskLastsSpec)

/-- 'pavanelaw03.DiskKeeps', WHERE WHAT IT READS IS OF BULK AT MOST 1048576: true; the input reads as it did. -/
def diskKeepsUptoRow : OpenClaim := { program := "ytdhhpnfdnoaihaa", sum := "0e5eca8d68e063d9c331a8ecc1f65c0689b719ec12d2201e51f5a61a1f03ac96", func := "pavane/pavanelaw03.DiskKeeps", spec := "diskKeeps", apart := false, narrowed := true }
def DiskKeepsUptoSaid : Prop := diskKeepsUptoRow.holds Try.pinned (OpenSpec.upto diskKeepsSpec)

/-- 'pavanelaw03.DiskPlays', WHERE WHAT IT READS IS OF BULK AT MOST 1048576: true; the input reads as it did. -/
def diskPlaysUptoRow : OpenClaim := { program := "ytdhhpnfdnoaihaa", sum := "0e5eca8d68e063d9c331a8ecc1f65c0689b719ec12d2201e51f5a61a1f03ac96", func := "pavane/pavanelaw03.DiskPlays", spec := "diskPlays", apart := false, narrowed := true }
def DiskPlaysUptoSaid : Prop := diskPlaysUptoRow.holds Try.pinned (OpenSpec.upto diskPlaysSpec)

/-- 'pavanelaw05.JournalSpoilt', WHERE WHAT IT READS IS OF BULK AT MOST 1048576: true; the input reads as it did. -/
def journalSpoiltUptoRow : OpenClaim := { program := "ytdhhpnfdnoaihaa", sum := "0e5eca8d68e063d9c331a8ecc1f65c0689b719ec12d2201e51f5a61a1f03ac96", func := "pavane/pavanelaw05.JournalSpoilt", spec := "journalSpoilt", unfollowed := true, recurses := true, apart := false, narrowed := true }
def JournalSpoiltUptoSaid : Prop := journalSpoiltUptoRow.holds Try.pinned (OpenSpec.upto journalSpoiltSpec)

/-- 'pavanelaw05.JournalKeeps', WHERE WHAT IT READS IS OF BULK AT MOST 1048576: true; the input reads as it did. -/
def journalKeepsUptoRow : OpenClaim := { program := "ytdhhpnfdnoaihaa", sum := "0e5eca8d68e063d9c331a8ecc1f65c0689b719ec12d2201e51f5a61a1f03ac96", func := "pavane/pavanelaw05.JournalKeeps", spec := "journalKeeps", unfollowed := true, recurses := true, apart := false, narrowed := true }
def JournalKeepsUptoSaid : Prop := journalKeepsUptoRow.holds Try.pinned (OpenSpec.upto journalKeepsSpec)

/-- 'pavanelaw05.JournalRoom', WHERE WHAT IT READS IS OF BULK AT MOST 1048576: true; the input reads as it did. -/
def journalRoomUptoRow : OpenClaim := { program := "ytdhhpnfdnoaihaa", sum := "0e5eca8d68e063d9c331a8ecc1f65c0689b719ec12d2201e51f5a61a1f03ac96", func := "pavane/pavanelaw05.JournalRoom", spec := "journalRoom", unfollowed := true, recurses := true, apart := false, narrowed := true }
def JournalRoomUptoSaid : Prop := journalRoomUptoRow.holds Try.pinned (OpenSpec.upto journalRoomSpec)

/-- 'pavanelaw05.JournalTorn', WHERE WHAT IT READS IS OF BULK AT MOST 1048576: true; the input reads as it did. -/
def journalTornUptoRow : OpenClaim := { program := "ytdhhpnfdnoaihaa", sum := "0e5eca8d68e063d9c331a8ecc1f65c0689b719ec12d2201e51f5a61a1f03ac96", func := "pavane/pavanelaw05.JournalTorn", spec := "journalTorn", unfollowed := true, recurses := true, apart := false, narrowed := true }
def JournalTornUptoSaid : Prop := journalTornUptoRow.holds Try.pinned (OpenSpec.upto journalTornSpec)

/-- 'pavanelaw06.StoreFinds', WHERE WHAT IT READS IS OF BULK AT MOST 1048576: true; the input reads as it did. -/
def storeFindsUptoRow : OpenClaim := { program := "ytdhhpnfdnoaihaa", sum := "0e5eca8d68e063d9c331a8ecc1f65c0689b719ec12d2201e51f5a61a1f03ac96", func := "pavane/pavanelaw06.StoreFinds", spec := "storeFinds", inPlace := ["internal/bytealg.abigen_runtime_cmpstring", "slices.overlaps[pavane/store.Change]"], unfollowed := true, recurses := true, apart := false, narrowed := true }
def StoreFindsUptoSaid : Prop := storeFindsUptoRow.holds Try.pinned (OpenSpec.upto storeFindsSpec)

/-- 'pavanelaw06.StoreGoesOn', WHERE WHAT IT READS IS OF BULK AT MOST 1048576: true; the input reads as it did. -/
def storeGoesOnUptoRow : OpenClaim := { program := "ytdhhpnfdnoaihaa", sum := "0e5eca8d68e063d9c331a8ecc1f65c0689b719ec12d2201e51f5a61a1f03ac96", func := "pavane/pavanelaw06.StoreGoesOn", spec := "storeGoesOn", inPlace := ["internal/bytealg.abigen_runtime_cmpstring", "slices.overlaps[pavane/store.Change]"], unfollowed := true, recurses := true, apart := false, narrowed := true }
def StoreGoesOnUptoSaid : Prop := storeGoesOnUptoRow.holds Try.pinned (OpenSpec.upto storeGoesOnSpec)

/-- 'pavanelaw06.StoreKeeps', WHERE WHAT IT READS IS OF BULK AT MOST 1048576: true; the input reads as it did. -/
def storeKeepsUptoRow : OpenClaim := { program := "ytdhhpnfdnoaihaa", sum := "0e5eca8d68e063d9c331a8ecc1f65c0689b719ec12d2201e51f5a61a1f03ac96", func := "pavane/pavanelaw06.StoreKeeps", spec := "storeKeeps", inPlace := ["internal/bytealg.abigen_runtime_cmpstring", "slices.overlaps[pavane/store.Change]"], unfollowed := true, recurses := true, apart := false, narrowed := true }
def StoreKeepsUptoSaid : Prop := storeKeepsUptoRow.holds Try.pinned (OpenSpec.upto storeKeepsSpec)

/-- 'pavanelaw06.StoreFull', WHERE WHAT IT READS IS OF BULK AT MOST 1048576: true; the input reads as it did. -/
def storeFullUptoRow : OpenClaim := { program := "ytdhhpnfdnoaihaa", sum := "0e5eca8d68e063d9c331a8ecc1f65c0689b719ec12d2201e51f5a61a1f03ac96", func := "pavane/pavanelaw06.StoreFull", spec := "storeFull", inPlace := ["internal/bytealg.abigen_runtime_cmpstring", "slices.overlaps[pavane/store.Change]"], unfollowed := true, recurses := true, apart := false, narrowed := true }
def StoreFullUptoSaid : Prop := storeFullUptoRow.holds Try.pinned (OpenSpec.upto storeFullSpec)

end Rows
end Go.Proofs.Ytdhhpnfdnoaihaa

/-
  No cell of these rows narrows 'for every input' (looked for: loops, veiled, ifaces, maps, wideKeys, modest, calm, conditions, laid).
  DERIVED. THE GIVEN ROWS OF THIS SEAT. 6 by the template 'for every input the law returns true; each argument reads behind the call as it read before'; 0 by the template 'total and deterministic' (their statements: YteafgnbkeghmdaaTotals.lean).
  GIVEN WITH THE SEED: the statements are not yours to turn. If you find one false, say at which input.
  Laid BY PROGRAM, IN A SANDBOX (cutbox-rows.mjs): the forced cells as the released guide's own fill.sh prints them over the translation 69694458ac34922e… (all of the seat's roots in one cut). By AI agents, Wed Nov 11 2026. No macro, syntax, notation, axiom, sorry.
-/
import Derived.Test.YteafgnbkeghmdaaChecked
import GoSem.Claim
import GoSem.ClaimJoined
import GoSem.ClaimMapViews
import Derived.JoinedTies
import Derived.KernelRfl
namespace Go.Proofs.Yteafgnbkeghmdaa
/- THE CELL 'sum', in the pinned program and in every row, IS THE sha256 OF THE DUMP (.gsa) THAT YteafgnbkeghmdaaProg.lean LOADS. Nothing in Lean hashes anything: it is a label: what it is worth is what the hold of that sum in a sandbox is worth. -/
noncomputable def Try.pinned : Pinned := { name := "yteafgnbkeghmdaa", sum := "69694458ac34922ec885fcf00a1dcd48f044f27a97f375f744b9de9c006799d0", checked := Try.checked }
namespace Rows
def none {H : Type} : Left H := { results := [], args := [] }

/-- 'delayslotlaw16.ScanTokens': WHATEVER THE INPUT: true; the input reads as it did. -/
def scanTokensSpec : ChangeSpec := { name := "scanTokens", fn := fun _ => fun
  | [d] => { results := [.lit (.bool true)], args := [d] }
  | _ => none }
def scanTokensRow : OpenClaim := { program := "yteafgnbkeghmdaa", sum := "69694458ac34922ec885fcf00a1dcd48f044f27a97f375f744b9de9c006799d0", func := "delayslot/delayslotlaw16.ScanTokens", spec := "scanTokens", inPlace := ["internal/bytealg.IndexByteString"], unfollowed := true, recurses := true, apart := false }
def ScanTokensSaid : Prop := scanTokensRow.holds Try.pinned (OpenSpec.ofChange scanTokensSpec)

/-- ITS FALSE NEIGHBOUR: 'it returns false'. Refute it at one input. -/
def scanTokensWrong : ChangeSpec := { name := "scanTokens", fn := fun _ => fun
  | [d] => { results := [.lit (.bool false)], args := [d] }
  | _ => none }
def ScanTokensWrongFalsely : Prop := scanTokensRow.holds Try.pinned (OpenSpec.ofChange scanTokensWrong)

/-- 'delayslotlaw16.ScanShifts': WHATEVER THE INPUT: true; the input reads as it did. -/
def scanShiftsSpec : ChangeSpec := { name := "scanShifts", fn := fun _ => fun
  | [d1, d2, d3] => { results := [.lit (.bool true)], args := [d1, d2, d3] }
  | _ => none }
def scanShiftsRow : OpenClaim := { program := "yteafgnbkeghmdaa", sum := "69694458ac34922ec885fcf00a1dcd48f044f27a97f375f744b9de9c006799d0", func := "delayslot/delayslotlaw16.ScanShifts", spec := "scanShifts", inPlace := ["internal/bytealg.IndexByteString"], unfollowed := true, recurses := true, apart := false }
def ScanShiftsSaid : Prop := scanShiftsRow.holds Try.pinned (OpenSpec.ofChange scanShiftsSpec)

/-- ITS FALSE NEIGHBOUR: 'it returns false'. Refute it at one input. -/
def scanShiftsWrong : ChangeSpec := { name := "scanShifts", fn := fun _ => fun
  | [d1, d2, d3] => { results := [.lit (.bool false)], args := [d1, d2, d3] }
  | _ => none }
def ScanShiftsWrongFalsely : Prop := scanShiftsRow.holds Try.pinned (OpenSpec.ofChange scanShiftsWrong)

/-- 'delayslotlaw16.ScanWords': WHATEVER THE INPUT: true; the input reads as it did. -/
def scanWordsSpec : ChangeSpec := { name := "scanWords", fn := fun _ => fun
  | [d] => { results := [.lit (.bool true)], args := [d] }
  | _ => none }
def scanWordsRow : OpenClaim := { program := "yteafgnbkeghmdaa", sum := "69694458ac34922ec885fcf00a1dcd48f044f27a97f375f744b9de9c006799d0", func := "delayslot/delayslotlaw16.ScanWords", spec := "scanWords", inPlace := ["internal/bytealg.IndexByteString"], unfollowed := true, recurses := true, apart := false }
def ScanWordsSaid : Prop := scanWordsRow.holds Try.pinned (OpenSpec.ofChange scanWordsSpec)

/-- ITS FALSE NEIGHBOUR: 'it returns false'. Refute it at one input. -/
def scanWordsWrong : ChangeSpec := { name := "scanWords", fn := fun _ => fun
  | [d] => { results := [.lit (.bool false)], args := [d] }
  | _ => none }
def ScanWordsWrongFalsely : Prop := scanWordsRow.holds Try.pinned (OpenSpec.ofChange scanWordsWrong)

/-- 'delayslotlaw16.ScanCase': WHATEVER THE INPUT: true; the input reads as it did. -/
def scanCaseSpec : ChangeSpec := { name := "scanCase", fn := fun _ => fun
  | [d] => { results := [.lit (.bool true)], args := [d] }
  | _ => none }
def scanCaseRow : OpenClaim := { program := "yteafgnbkeghmdaa", sum := "69694458ac34922ec885fcf00a1dcd48f044f27a97f375f744b9de9c006799d0", func := "delayslot/delayslotlaw16.ScanCase", spec := "scanCase", inPlace := ["internal/bytealg.IndexByteString"], unfollowed := true, recurses := true, apart := false }
def ScanCaseSaid : Prop := scanCaseRow.holds Try.pinned (OpenSpec.ofChange scanCaseSpec)

/-- ITS FALSE NEIGHBOUR: 'it returns false'. Refute it at one input. -/
def scanCaseWrong : ChangeSpec := { name := "scanCase", fn := fun _ => fun
  | [d] => { results := [.lit (.bool false)], args := [d] }
  | _ => none }
def ScanCaseWrongFalsely : Prop := scanCaseRow.holds Try.pinned (OpenSpec.ofChange scanCaseWrong)

/-- 'delayslotlaw16.ScanPlaces': WHATEVER THE INPUT: true; the input reads as it did. -/
def scanPlacesSpec : ChangeSpec := { name := "scanPlaces", fn := fun _ => fun
  | [d] => { results := [.lit (.bool true)], args := [d] }
  | _ => none }
def scanPlacesRow : OpenClaim := { program := "yteafgnbkeghmdaa", sum := "69694458ac34922ec885fcf00a1dcd48f044f27a97f375f744b9de9c006799d0", func := "delayslot/delayslotlaw16.ScanPlaces", spec := "scanPlaces", inPlace := ["internal/bytealg.IndexByteString"], unfollowed := true, recurses := true, apart := false }
def ScanPlacesSaid : Prop := scanPlacesRow.holds Try.pinned (OpenSpec.ofChange scanPlacesSpec)

/-- ITS FALSE NEIGHBOUR: 'it returns false'. Refute it at one input. -/
def scanPlacesWrong : ChangeSpec := { name := "scanPlaces", fn := fun _ => fun
  | [d] => { results := [.lit (.bool false)], args := [d] }
  | _ => none }
def ScanPlacesWrongFalsely : Prop := scanPlacesRow.holds Try.pinned (OpenSpec.ofChange scanPlacesWrong)

/-- 'delayslotlaw16.ScanJoins': WHATEVER THE INPUT: true; the input reads as it did. -/
def scanJoinsSpec : ChangeSpec := { name := "scanJoins", fn := fun _ => fun
  | [d1, d2] => { results := [.lit (.bool true)], args := [d1, d2] }
  | _ => none }
def scanJoinsRow : OpenClaim := { program := "yteafgnbkeghmdaa", sum := "69694458ac34922ec885fcf00a1dcd48f044f27a97f375f744b9de9c006799d0", func := "delayslot/delayslotlaw16.ScanJoins", spec := "scanJoins", inPlace := ["internal/bytealg.IndexByteString"], unfollowed := true, recurses := true, apart := false }
def ScanJoinsSaid : Prop := scanJoinsRow.holds Try.pinned (OpenSpec.ofChange scanJoinsSpec)

/-- ITS FALSE NEIGHBOUR: 'it returns false'. Refute it at one input. -/
def scanJoinsWrong : ChangeSpec := { name := "scanJoins", fn := fun _ => fun
  | [d1, d2] => { results := [.lit (.bool false)], args := [d1, d2] }
  | _ => none }
def ScanJoinsWrongFalsely : Prop := scanJoinsRow.holds Try.pinned (OpenSpec.ofChange scanJoinsWrong)

/- THE SECOND FORM. 'bulk': how many values and letters a reading holds, each counted each time it is reached (what is shared counts as often as it is met; a slice's spare places count too). A statement '..UptoSaid' is the law's where the arguments, and the package variables that the reading takes, are together of bulk at most 1048576: NARROWER than '..Said'. Prove '..Said' where nothing that the law and all that it calls make is longer than what came in: it says more and counts as full. Else prove '..UptoSaid'. A law counts once. -/
mutual
def uptoBulk {H : Type} : DataW H → Nat
  | .lit (.string bytes) => bytes.length + 1
  | .lit _ => 1
  | .nil => 1
  | .ptr d => uptoBulk d + 1
  | .slice elems spare => uptoBulkAll elems + uptoBulkAll spare + 1
  | .agg parts => uptoBulkAll parts + 1
  | .iface _ d => uptoBulk d + 1
  | .map entries => uptoBulkEntries entries + 1
  | .held _ => 1
def uptoBulkAll {H : Type} : List (DataW H) → Nat
  | [] => 0
  | d :: r => uptoBulk d + uptoBulkAll r
def uptoBulkEntries {H : Type} : List (Lit × DataW H) → Nat
  | [] => 0
  | x :: r => uptoBulkEntry x + uptoBulkEntries r
def uptoBulkEntry {H : Type} : Lit × DataW H → Nat
  | (.string bytes, d) => bytes.length + uptoBulk d + 1
  | (_, d) => uptoBulk d + 1
 end
def uptoSmall : (H : Type) → List (DataW H) → Bool := fun _ ds => decide (uptoBulkAll ds ≤ 1048576)
def OpenSpec.upto (s : _root_.Go.ChangeSpec) : _root_.Go.OpenSpec := { _root_.Go.OpenSpec.ofChange s with cond := some uptoSmall }

/-- 'delayslotlaw16.ScanTokens', WHERE WHAT IT READS IS OF BULK AT MOST 1048576: true; the input reads as it did. -/
def scanTokensUptoRow : OpenClaim := { program := "yteafgnbkeghmdaa", sum := "69694458ac34922ec885fcf00a1dcd48f044f27a97f375f744b9de9c006799d0", func := "delayslot/delayslotlaw16.ScanTokens", spec := "scanTokens", inPlace := ["internal/bytealg.IndexByteString"], unfollowed := true, recurses := true, apart := false, narrowed := true }
def ScanTokensUptoSaid : Prop := scanTokensUptoRow.holds Try.pinned (OpenSpec.upto scanTokensSpec)

/-- 'delayslotlaw16.ScanShifts', WHERE WHAT IT READS IS OF BULK AT MOST 1048576: true; the input reads as it did. -/
def scanShiftsUptoRow : OpenClaim := { program := "yteafgnbkeghmdaa", sum := "69694458ac34922ec885fcf00a1dcd48f044f27a97f375f744b9de9c006799d0", func := "delayslot/delayslotlaw16.ScanShifts", spec := "scanShifts", inPlace := ["internal/bytealg.IndexByteString"], unfollowed := true, recurses := true, apart := false, narrowed := true }
def ScanShiftsUptoSaid : Prop := scanShiftsUptoRow.holds Try.pinned (OpenSpec.upto scanShiftsSpec)

/-- 'delayslotlaw16.ScanWords', WHERE WHAT IT READS IS OF BULK AT MOST 1048576: true; the input reads as it did. -/
def scanWordsUptoRow : OpenClaim := { program := "yteafgnbkeghmdaa", sum := "69694458ac34922ec885fcf00a1dcd48f044f27a97f375f744b9de9c006799d0", func := "delayslot/delayslotlaw16.ScanWords", spec := "scanWords", inPlace := ["internal/bytealg.IndexByteString"], unfollowed := true, recurses := true, apart := false, narrowed := true }
def ScanWordsUptoSaid : Prop := scanWordsUptoRow.holds Try.pinned (OpenSpec.upto scanWordsSpec)

/-- 'delayslotlaw16.ScanCase', WHERE WHAT IT READS IS OF BULK AT MOST 1048576: true; the input reads as it did. -/
def scanCaseUptoRow : OpenClaim := { program := "yteafgnbkeghmdaa", sum := "69694458ac34922ec885fcf00a1dcd48f044f27a97f375f744b9de9c006799d0", func := "delayslot/delayslotlaw16.ScanCase", spec := "scanCase", inPlace := ["internal/bytealg.IndexByteString"], unfollowed := true, recurses := true, apart := false, narrowed := true }
def ScanCaseUptoSaid : Prop := scanCaseUptoRow.holds Try.pinned (OpenSpec.upto scanCaseSpec)

/-- 'delayslotlaw16.ScanPlaces', WHERE WHAT IT READS IS OF BULK AT MOST 1048576: true; the input reads as it did. -/
def scanPlacesUptoRow : OpenClaim := { program := "yteafgnbkeghmdaa", sum := "69694458ac34922ec885fcf00a1dcd48f044f27a97f375f744b9de9c006799d0", func := "delayslot/delayslotlaw16.ScanPlaces", spec := "scanPlaces", inPlace := ["internal/bytealg.IndexByteString"], unfollowed := true, recurses := true, apart := false, narrowed := true }
def ScanPlacesUptoSaid : Prop := scanPlacesUptoRow.holds Try.pinned (OpenSpec.upto scanPlacesSpec)

/-- 'delayslotlaw16.ScanJoins', WHERE WHAT IT READS IS OF BULK AT MOST 1048576: true; the input reads as it did. -/
def scanJoinsUptoRow : OpenClaim := { program := "yteafgnbkeghmdaa", sum := "69694458ac34922ec885fcf00a1dcd48f044f27a97f375f744b9de9c006799d0", func := "delayslot/delayslotlaw16.ScanJoins", spec := "scanJoins", inPlace := ["internal/bytealg.IndexByteString"], unfollowed := true, recurses := true, apart := false, narrowed := true }
def ScanJoinsUptoSaid : Prop := scanJoinsUptoRow.holds Try.pinned (OpenSpec.upto scanJoinsSpec)

end Rows
end Go.Proofs.Yteafgnbkeghmdaa

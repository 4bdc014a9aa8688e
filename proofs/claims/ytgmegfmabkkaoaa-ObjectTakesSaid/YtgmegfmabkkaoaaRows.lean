/-
  No cell of these rows narrows 'for every input' (looked for: loops, veiled, ifaces, maps, wideKeys, modest, calm, conditions, laid).
  DERIVED. THE GIVEN ROWS OF THIS SEAT. 6 by the template 'for every input the law returns true; each argument reads behind the call as it read before'; 0 by the template 'total and deterministic' (their statements: YtgmegfmabkkaoaaTotals.lean).
  GIVEN WITH THE SEED: the statements are not yours to turn. If you find one false, say at which input.
  Laid BY PROGRAM, IN A SANDBOX (cutbox-rows.mjs): the forced cells as the released guide's own fill.sh prints them over the translation 5259007c96dcbf35… (all of the seat's roots in one cut). By AI agents, Wed Nov 11 2026. No macro, syntax, notation, axiom, sorry.
-/
import Derived.Test.YtgmegfmabkkaoaaChecked
import GoSem.Claim
import GoSem.ClaimJoined
import GoSem.ClaimMapViews
import Derived.JoinedTies
import Derived.KernelRfl
namespace Go.Proofs.Ytgmegfmabkkaoaa
/- THE CELL 'sum', in the pinned program and in every row, IS THE sha256 OF THE DUMP (.gsa) THAT YtgmegfmabkkaoaaProg.lean LOADS. Nothing in Lean hashes anything: it is a label: what it is worth is what the hold of that sum in a sandbox is worth. -/
noncomputable def Try.pinned : Pinned := { name := "ytgmegfmabkkaoaa", sum := "5259007c96dcbf35e06c3cc6351b60d40826554d849e65fab58f444e25665190", checked := Try.checked }
namespace Rows
def none {H : Type} : Left H := { results := [], args := [] }

/-- 'delayslotlaw14.ObjectPuts': WHATEVER THE INPUT: true; the input reads as it did. -/
def objectPutsSpec : ChangeSpec := { name := "objectPuts", fn := fun _ => fun
  | [d1, d2] => { results := [.lit (.bool true)], args := [d1, d2] }
  | _ => none }
def objectPutsRow : OpenClaim := { program := "ytgmegfmabkkaoaa", sum := "5259007c96dcbf35e06c3cc6351b60d40826554d849e65fab58f444e25665190", func := "delayslot/delayslotlaw14.ObjectPuts", spec := "objectPuts", unfollowed := true, recurses := true, apart := false }
def ObjectPutsSaid : Prop := objectPutsRow.holds Try.pinned (OpenSpec.ofChange objectPutsSpec)

/-- ITS FALSE NEIGHBOUR: 'it returns false'. Refute it at one input. -/
def objectPutsWrong : ChangeSpec := { name := "objectPuts", fn := fun _ => fun
  | [d1, d2] => { results := [.lit (.bool false)], args := [d1, d2] }
  | _ => none }
def ObjectPutsWrongFalsely : Prop := objectPutsRow.holds Try.pinned (OpenSpec.ofChange objectPutsWrong)

/-- 'delayslotlaw14.ObjectTakes': WHATEVER THE INPUT: true; the input reads as it did. -/
def objectTakesSpec : ChangeSpec := { name := "objectTakes", fn := fun _ => fun
  | [d] => { results := [.lit (.bool true)], args := [d] }
  | _ => none }
def objectTakesRow : OpenClaim := { program := "ytgmegfmabkkaoaa", sum := "5259007c96dcbf35e06c3cc6351b60d40826554d849e65fab58f444e25665190", func := "delayslot/delayslotlaw14.ObjectTakes", spec := "objectTakes", unfollowed := true, recurses := true, apart := false }
def ObjectTakesSaid : Prop := objectTakesRow.holds Try.pinned (OpenSpec.ofChange objectTakesSpec)

/-- ITS FALSE NEIGHBOUR: 'it returns false'. Refute it at one input. -/
def objectTakesWrong : ChangeSpec := { name := "objectTakes", fn := fun _ => fun
  | [d] => { results := [.lit (.bool false)], args := [d] }
  | _ => none }
def ObjectTakesWrongFalsely : Prop := objectTakesRow.holds Try.pinned (OpenSpec.ofChange objectTakesWrong)

/-- 'delayslotlaw14.ObjectSizes': WHATEVER THE INPUT: true; the input reads as it did. -/
def objectSizesSpec : ChangeSpec := { name := "objectSizes", fn := fun _ => fun
  | [d] => { results := [.lit (.bool true)], args := [d] }
  | _ => none }
def objectSizesRow : OpenClaim := { program := "ytgmegfmabkkaoaa", sum := "5259007c96dcbf35e06c3cc6351b60d40826554d849e65fab58f444e25665190", func := "delayslot/delayslotlaw14.ObjectSizes", spec := "objectSizes", unfollowed := true, recurses := true, apart := false }
def ObjectSizesSaid : Prop := objectSizesRow.holds Try.pinned (OpenSpec.ofChange objectSizesSpec)

/-- ITS FALSE NEIGHBOUR: 'it returns false'. Refute it at one input. -/
def objectSizesWrong : ChangeSpec := { name := "objectSizes", fn := fun _ => fun
  | [d] => { results := [.lit (.bool false)], args := [d] }
  | _ => none }
def ObjectSizesWrongFalsely : Prop := objectSizesRow.holds Try.pinned (OpenSpec.ofChange objectSizesWrong)

/-- 'delayslotlaw14.ObjectShort': WHATEVER THE INPUT: true; the input reads as it did. -/
def objectShortSpec : ChangeSpec := { name := "objectShort", fn := fun _ => fun
  | [d1, d2, d3] => { results := [.lit (.bool true)], args := [d1, d2, d3] }
  | _ => none }
def objectShortRow : OpenClaim := { program := "ytgmegfmabkkaoaa", sum := "5259007c96dcbf35e06c3cc6351b60d40826554d849e65fab58f444e25665190", func := "delayslot/delayslotlaw14.ObjectShort", spec := "objectShort", unfollowed := true, recurses := true, apart := false }
def ObjectShortSaid : Prop := objectShortRow.holds Try.pinned (OpenSpec.ofChange objectShortSpec)

/-- ITS FALSE NEIGHBOUR: 'it returns false'. Refute it at one input. -/
def objectShortWrong : ChangeSpec := { name := "objectShort", fn := fun _ => fun
  | [d1, d2, d3] => { results := [.lit (.bool false)], args := [d1, d2, d3] }
  | _ => none }
def ObjectShortWrongFalsely : Prop := objectShortRow.holds Try.pinned (OpenSpec.ofChange objectShortWrong)

/-- 'delayslotlaw14.ObjectLess': WHATEVER THE INPUT: true; the input reads as it did. -/
def objectLessSpec : ChangeSpec := { name := "objectLess", fn := fun _ => fun
  | [d] => { results := [.lit (.bool true)], args := [d] }
  | _ => none }
def objectLessRow : OpenClaim := { program := "ytgmegfmabkkaoaa", sum := "5259007c96dcbf35e06c3cc6351b60d40826554d849e65fab58f444e25665190", func := "delayslot/delayslotlaw14.ObjectLess", spec := "objectLess", unfollowed := true, recurses := true, apart := false }
def ObjectLessSaid : Prop := objectLessRow.holds Try.pinned (OpenSpec.ofChange objectLessSpec)

/-- ITS FALSE NEIGHBOUR: 'it returns false'. Refute it at one input. -/
def objectLessWrong : ChangeSpec := { name := "objectLess", fn := fun _ => fun
  | [d] => { results := [.lit (.bool false)], args := [d] }
  | _ => none }
def ObjectLessWrongFalsely : Prop := objectLessRow.holds Try.pinned (OpenSpec.ofChange objectLessWrong)

/-- 'delayslotlaw14.ObjectUnlike': WHATEVER THE INPUT: true; the input reads as it did. -/
def objectUnlikeSpec : ChangeSpec := { name := "objectUnlike", fn := fun _ => fun
  | [d1, d2] => { results := [.lit (.bool true)], args := [d1, d2] }
  | _ => none }
def objectUnlikeRow : OpenClaim := { program := "ytgmegfmabkkaoaa", sum := "5259007c96dcbf35e06c3cc6351b60d40826554d849e65fab58f444e25665190", func := "delayslot/delayslotlaw14.ObjectUnlike", spec := "objectUnlike", unfollowed := true, recurses := true, apart := false }
def ObjectUnlikeSaid : Prop := objectUnlikeRow.holds Try.pinned (OpenSpec.ofChange objectUnlikeSpec)

/-- ITS FALSE NEIGHBOUR: 'it returns false'. Refute it at one input. -/
def objectUnlikeWrong : ChangeSpec := { name := "objectUnlike", fn := fun _ => fun
  | [d1, d2] => { results := [.lit (.bool false)], args := [d1, d2] }
  | _ => none }
def ObjectUnlikeWrongFalsely : Prop := objectUnlikeRow.holds Try.pinned (OpenSpec.ofChange objectUnlikeWrong)

/- THE SECOND FORM. 'bulk': how many values and letters a reading holds, each counted each time it is reached (what is shared counts as often as it is met; a slice's spare places count too). A statement '..UptoSaid' is the law's where the arguments, and the package variables that the reading takes, are together of bulk at most 1048576: NARROWER than '..Said'. Prove '..Said' where nothing that the law and all that it calls make is longer than what came in: it says more and counts as full. Else prove '..UptoSaid'. A law counts once. -/
mutual
def uptoBulk {H : Type} : DataW H → Nat
  | .lit (.string bytes) => bytes.length + 1
  | .lit _ => 1
  | .nil => 1
  | .ptr d => uptoBulk d + 1
  | .slice elems spare => uptoBulkAll elems + uptoBulkAll spare + 1
  | .agg parts => uptoBulkAll parts + 1
  | .iface _ d => uptoBulk d + 1
  | .map entries => uptoBulkEntries entries + 1
  | .held _ => 1
def uptoBulkAll {H : Type} : List (DataW H) → Nat
  | [] => 0
  | d :: r => uptoBulk d + uptoBulkAll r
def uptoBulkEntries {H : Type} : List (Lit × DataW H) → Nat
  | [] => 0
  | x :: r => uptoBulkEntry x + uptoBulkEntries r
def uptoBulkEntry {H : Type} : Lit × DataW H → Nat
  | (.string bytes, d) => bytes.length + uptoBulk d + 1
  | (_, d) => uptoBulk d + 1
 end
def uptoSmall : (H : Type) → List (DataW H) → Bool := fun _ ds => decide (uptoBulkAll ds ≤ 1048576)
def OpenSpec.upto (s : _root_.Go.ChangeSpec) : _root_.Go.OpenSpec := { _root_.Go.OpenSpec.ofChange s with cond := some uptoSmall }

/-- 'delayslotlaw14.ObjectPuts', WHERE WHAT IT READS IS OF BULK AT MOST 1048576: true; the input reads as it did. -/
def objectPutsUptoRow : OpenClaim := { program := "ytgmegfmabkkaoaa", sum := "5259007c96dcbf35e06c3cc6351b60d40826554d849e65fab58f444e25665190", func := "delayslot/delayslotlaw14.ObjectPuts", spec := "objectPuts", unfollowed := true, recurses := true, apart := false, narrowed := true }
def ObjectPutsUptoSaid : Prop := objectPutsUptoRow.holds Try.pinned (OpenSpec.upto objectPutsSpec)

/-- 'delayslotlaw14.ObjectTakes', WHERE WHAT IT READS IS OF BULK AT MOST 1048576: true; the input reads as it did. -/
def objectTakesUptoRow : OpenClaim := { program := "ytgmegfmabkkaoaa", sum := "5259007c96dcbf35e06c3cc6351b60d40826554d849e65fab58f444e25665190", func := "delayslot/delayslotlaw14.ObjectTakes", spec := "objectTakes", unfollowed := true, recurses := true, apart := false, narrowed := true }
def ObjectTakesUptoSaid : Prop := objectTakesUptoRow.holds Try.pinned (OpenSpec.upto objectTakesSpec)

/-- 'delayslotlaw14.ObjectSizes', WHERE WHAT IT READS IS OF BULK AT MOST 1048576: true; the input reads as it did. -/
def objectSizesUptoRow : OpenClaim := { program := "ytgmegfmabkkaoaa", sum := "5259007c96dcbf35e06c3cc6351b60d40826554d849e65fab58f444e25665190", func := "delayslot/delayslotlaw14.ObjectSizes", spec := "objectSizes", unfollowed := true, recurses := true, apart := false, narrowed := true }
def ObjectSizesUptoSaid : Prop := objectSizesUptoRow.holds Try.pinned (OpenSpec.upto objectSizesSpec)

/-- 'delayslotlaw14.ObjectShort', WHERE WHAT IT READS IS OF BULK AT MOST 1048576: true; the input reads as it did. -/
def objectShortUptoRow : OpenClaim := { program := "ytgmegfmabkkaoaa", sum := "5259007c96dcbf35e06c3cc6351b60d40826554d849e65fab58f444e25665190", func := "delayslot/delayslotlaw14.ObjectShort", spec := "objectShort", unfollowed := true, recurses := true, apart := false, narrowed := true }
def ObjectShortUptoSaid : Prop := objectShortUptoRow.holds Try.pinned (OpenSpec.upto objectShortSpec)

/-- 'delayslotlaw14.ObjectLess', WHERE WHAT IT READS IS OF BULK AT MOST 1048576: true; the input reads as it did. -/
def objectLessUptoRow : OpenClaim := { program := "ytgmegfmabkkaoaa", sum := "5259007c96dcbf35e06c3cc6351b60d40826554d849e65fab58f444e25665190", func := "delayslot/delayslotlaw14.ObjectLess", spec := "objectLess", unfollowed := true, recurses := true, apart := false, narrowed := true }
def ObjectLessUptoSaid : Prop := objectLessUptoRow.holds Try.pinned (OpenSpec.upto objectLessSpec)

/-- 'delayslotlaw14.ObjectUnlike', WHERE WHAT IT READS IS OF BULK AT MOST 1048576: true; the input reads as it did. -/
def objectUnlikeUptoRow : OpenClaim := { program := "ytgmegfmabkkaoaa", sum := "5259007c96dcbf35e06c3cc6351b60d40826554d849e65fab58f444e25665190", func := "delayslot/delayslotlaw14.ObjectUnlike", spec := "objectUnlike", unfollowed := true, recurses := true, apart := false, narrowed := true }
def ObjectUnlikeUptoSaid : Prop := objectUnlikeUptoRow.holds Try.pinned (OpenSpec.upto objectUnlikeSpec)

end Rows
end Go.Proofs.Ytgmegfmabkkaoaa

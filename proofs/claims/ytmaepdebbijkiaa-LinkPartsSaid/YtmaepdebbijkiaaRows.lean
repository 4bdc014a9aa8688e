/-
  No cell of these rows narrows 'for every input' (looked for: loops, veiled, ifaces, maps, wideKeys, modest, calm, conditions, laid).
  DERIVED. THE GIVEN ROWS OF THIS SEAT. 6 by the template 'for every input the law returns true; each argument reads behind the call as it read before'; 0 by the template 'total and deterministic' (their statements: YtmaepdebbijkiaaTotals.lean).
  GIVEN WITH THE SEED: the statements are not yours to turn. If you find one false, say at which input.
  Laid BY PROGRAM, IN A SANDBOX (cutbox-rows.mjs): the forced cells as the released guide's own fill.sh prints them over the translation 262630fc0475b189… (all of the seat's roots in one cut). By AI agents, Wed Nov 11 2026. No macro, syntax, notation, axiom, sorry.
-/
import Derived.Test.YtmaepdebbijkiaaChecked
import GoSem.Claim
import GoSem.ClaimJoined
import GoSem.ClaimMapViews
import Derived.JoinedTies
import Derived.KernelRfl
namespace Go.Proofs.Ytmaepdebbijkiaa
/- THE CELL 'sum', in the pinned program and in every row, IS THE sha256 OF THE DUMP (.gsa) THAT YtmaepdebbijkiaaProg.lean LOADS. Nothing in Lean hashes anything: it is a label: what it is worth is what the hold of that sum in a sandbox is worth. -/
noncomputable def Try.pinned : Pinned := { name := "ytmaepdebbijkiaa", sum := "262630fc0475b189c72f4be9f2303ab42bfc803cc829d506d1e199b7063f246d", checked := Try.checked }
namespace Rows
def none {H : Type} : Left H := { results := [], args := [] }

/-- 'delayslotlaw15.LinkJoins': WHATEVER THE INPUT: true; the input reads as it did. -/
def linkJoinsSpec : ChangeSpec := { name := "linkJoins", fn := fun _ => fun
  | [d1, d2] => { results := [.lit (.bool true)], args := [d1, d2] }
  | _ => none }
def linkJoinsRow : OpenClaim := { program := "ytmaepdebbijkiaa", sum := "262630fc0475b189c72f4be9f2303ab42bfc803cc829d506d1e199b7063f246d", func := "delayslot/delayslotlaw15.LinkJoins", spec := "linkJoins", unfollowed := true, recurses := true, apart := false }
def LinkJoinsSaid : Prop := linkJoinsRow.holds Try.pinned (OpenSpec.ofChange linkJoinsSpec)

/-- ITS FALSE NEIGHBOUR: 'it returns false'. Refute it at one input. -/
def linkJoinsWrong : ChangeSpec := { name := "linkJoins", fn := fun _ => fun
  | [d1, d2] => { results := [.lit (.bool false)], args := [d1, d2] }
  | _ => none }
def LinkJoinsWrongFalsely : Prop := linkJoinsRow.holds Try.pinned (OpenSpec.ofChange linkJoinsWrong)

/-- 'delayslotlaw15.LinkAlone': WHATEVER THE INPUT: true; the input reads as it did. -/
def linkAloneSpec : ChangeSpec := { name := "linkAlone", fn := fun _ => fun
  | [d1, d2] => { results := [.lit (.bool true)], args := [d1, d2] }
  | _ => none }
def linkAloneRow : OpenClaim := { program := "ytmaepdebbijkiaa", sum := "262630fc0475b189c72f4be9f2303ab42bfc803cc829d506d1e199b7063f246d", func := "delayslot/delayslotlaw15.LinkAlone", spec := "linkAlone", unfollowed := true, recurses := true, apart := false }
def LinkAloneSaid : Prop := linkAloneRow.holds Try.pinned (OpenSpec.ofChange linkAloneSpec)

/-- ITS FALSE NEIGHBOUR: 'it returns false'. Refute it at one input. -/
def linkAloneWrong : ChangeSpec := { name := "linkAlone", fn := fun _ => fun
  | [d1, d2] => { results := [.lit (.bool false)], args := [d1, d2] }
  | _ => none }
def LinkAloneWrongFalsely : Prop := linkAloneRow.holds Try.pinned (OpenSpec.ofChange linkAloneWrong)

/-- 'delayslotlaw15.LinkBehind': WHATEVER THE INPUT: true; the input reads as it did. -/
def linkBehindSpec : ChangeSpec := { name := "linkBehind", fn := fun _ => fun
  | [d1, d2, d3] => { results := [.lit (.bool true)], args := [d1, d2, d3] }
  | _ => none }
def linkBehindRow : OpenClaim := { program := "ytmaepdebbijkiaa", sum := "262630fc0475b189c72f4be9f2303ab42bfc803cc829d506d1e199b7063f246d", func := "delayslot/delayslotlaw15.LinkBehind", spec := "linkBehind", unfollowed := true, recurses := true, apart := false }
def LinkBehindSaid : Prop := linkBehindRow.holds Try.pinned (OpenSpec.ofChange linkBehindSpec)

/-- ITS FALSE NEIGHBOUR: 'it returns false'. Refute it at one input. -/
def linkBehindWrong : ChangeSpec := { name := "linkBehind", fn := fun _ => fun
  | [d1, d2, d3] => { results := [.lit (.bool false)], args := [d1, d2, d3] }
  | _ => none }
def LinkBehindWrongFalsely : Prop := linkBehindRow.holds Try.pinned (OpenSpec.ofChange linkBehindWrong)

/-- 'delayslotlaw15.LinkTurned': WHATEVER THE INPUT: true; the input reads as it did. -/
def linkTurnedSpec : ChangeSpec := { name := "linkTurned", fn := fun _ => fun
  | [d1, d2, d3] => { results := [.lit (.bool true)], args := [d1, d2, d3] }
  | _ => none }
def linkTurnedRow : OpenClaim := { program := "ytmaepdebbijkiaa", sum := "262630fc0475b189c72f4be9f2303ab42bfc803cc829d506d1e199b7063f246d", func := "delayslot/delayslotlaw15.LinkTurned", spec := "linkTurned", unfollowed := true, recurses := true, apart := false }
def LinkTurnedSaid : Prop := linkTurnedRow.holds Try.pinned (OpenSpec.ofChange linkTurnedSpec)

/-- ITS FALSE NEIGHBOUR: 'it returns false'. Refute it at one input. -/
def linkTurnedWrong : ChangeSpec := { name := "linkTurned", fn := fun _ => fun
  | [d1, d2, d3] => { results := [.lit (.bool false)], args := [d1, d2, d3] }
  | _ => none }
def LinkTurnedWrongFalsely : Prop := linkTurnedRow.holds Try.pinned (OpenSpec.ofChange linkTurnedWrong)

/-- 'delayslotlaw15.LinkOps': WHATEVER THE INPUT: true; the input reads as it did. -/
def linkOpsSpec : ChangeSpec := { name := "linkOps", fn := fun _ => fun
  | [d1, d2] => { results := [.lit (.bool true)], args := [d1, d2] }
  | _ => none }
def linkOpsRow : OpenClaim := { program := "ytmaepdebbijkiaa", sum := "262630fc0475b189c72f4be9f2303ab42bfc803cc829d506d1e199b7063f246d", func := "delayslot/delayslotlaw15.LinkOps", spec := "linkOps", unfollowed := true, recurses := true, apart := false }
def LinkOpsSaid : Prop := linkOpsRow.holds Try.pinned (OpenSpec.ofChange linkOpsSpec)

/-- ITS FALSE NEIGHBOUR: 'it returns false'. Refute it at one input. -/
def linkOpsWrong : ChangeSpec := { name := "linkOps", fn := fun _ => fun
  | [d1, d2] => { results := [.lit (.bool false)], args := [d1, d2] }
  | _ => none }
def LinkOpsWrongFalsely : Prop := linkOpsRow.holds Try.pinned (OpenSpec.ofChange linkOpsWrong)

/-- 'delayslotlaw15.LinkParts': WHATEVER THE INPUT: true; the input reads as it did. -/
def linkPartsSpec : ChangeSpec := { name := "linkParts", fn := fun _ => fun
  | [d1, d2, d3, d4] => { results := [.lit (.bool true)], args := [d1, d2, d3, d4] }
  | _ => none }
def linkPartsRow : OpenClaim := { program := "ytmaepdebbijkiaa", sum := "262630fc0475b189c72f4be9f2303ab42bfc803cc829d506d1e199b7063f246d", func := "delayslot/delayslotlaw15.LinkParts", spec := "linkParts", unfollowed := true, recurses := true, apart := false }
def LinkPartsSaid : Prop := linkPartsRow.holds Try.pinned (OpenSpec.ofChange linkPartsSpec)

/-- ITS FALSE NEIGHBOUR: 'it returns false'. Refute it at one input. -/
def linkPartsWrong : ChangeSpec := { name := "linkParts", fn := fun _ => fun
  | [d1, d2, d3, d4] => { results := [.lit (.bool false)], args := [d1, d2, d3, d4] }
  | _ => none }
def LinkPartsWrongFalsely : Prop := linkPartsRow.holds Try.pinned (OpenSpec.ofChange linkPartsWrong)

/- THE SECOND FORM. 'bulk': how many values and letters a reading holds, each counted each time it is reached (what is shared counts as often as it is met; a slice's spare places count too). A statement '..UptoSaid' is the law's where the arguments, and the package variables that the reading takes, are together of bulk at most 1048576: NARROWER than '..Said'. Prove '..Said' where nothing that the law and all that it calls make is longer than what came in: it says more and counts as full. Else prove '..UptoSaid'. A law counts once. -/
mutual
def uptoBulk {H : Type} : DataW H → Nat
  | .lit (.string bytes) => bytes.length + 1
  | .lit _ => 1
  | .nil => 1
  | .ptr d => uptoBulk d + 1
  | .slice elems spare => uptoBulkAll elems + uptoBulkAll spare + 1
  | .agg parts => uptoBulkAll parts + 1
  | .iface _ d => uptoBulk d + 1
  | .map entries => uptoBulkEntries entries + 1
  | .held _ => 1
def uptoBulkAll {H : Type} : List (DataW H) → Nat
  | [] => 0
  | d :: r => uptoBulk d + uptoBulkAll r
def uptoBulkEntries {H : Type} : List (Lit × DataW H) → Nat
  | [] => 0
  | x :: r => uptoBulkEntry x + uptoBulkEntries r
def uptoBulkEntry {H : Type} : Lit × DataW H → Nat
  | (.string bytes, d) => bytes.length + uptoBulk d + 1
  | (_, d) => uptoBulk d + 1
 end
def uptoSmall : (H : Type) → List (DataW H) → Bool := fun _ ds => decide (uptoBulkAll ds ≤ 1048576)
def OpenSpec.upto (s : _root_.Go.ChangeSpec) : _root_.Go.OpenSpec := { _root_.Go.OpenSpec.ofChange s with cond := some uptoSmall }

/-- 'delayslotlaw15.LinkJoins', WHERE WHAT IT READS IS OF BULK AT MOST 1048576: true; the input reads as it did. -/
def linkJoinsUptoRow : OpenClaim := { program := "ytmaepdebbijkiaa", sum := "262630fc0475b189c72f4be9f2303ab42bfc803cc829d506d1e199b7063f246d", func := "delayslot/delayslotlaw15.LinkJoins", spec := "linkJoins", unfollowed := true, recurses := true, apart := false, narrowed := true }
def LinkJoinsUptoSaid : Prop := linkJoinsUptoRow.holds Try.pinned (OpenSpec.upto linkJoinsSpec)

/-- 'delayslotlaw15.LinkAlone', WHERE WHAT IT READS IS OF BULK AT MOST 1048576: true; the input reads as it did. -/
def linkAloneUptoRow : OpenClaim := { program := "ytmaepdebbijkiaa", sum := "262630fc0475b189c72f4be9f2303ab42bfc803cc829d506d1e199b7063f246d", func := "delayslot/delayslotlaw15.LinkAlone", spec := "linkAlone", unfollowed := true, recurses := true, apart := false, narrowed := true }
def LinkAloneUptoSaid : Prop := linkAloneUptoRow.holds Try.pinned (OpenSpec.upto linkAloneSpec)

/-- 'delayslotlaw15.LinkBehind', WHERE WHAT IT READS IS OF BULK AT MOST 1048576: true; the input reads as it did. -/
def linkBehindUptoRow : OpenClaim := { program := "ytmaepdebbijkiaa", sum := "262630fc0475b189c72f4be9f2303ab42bfc803cc829d506d1e199b7063f246d", func := "delayslot/delayslotlaw15.LinkBehind", spec := "linkBehind", unfollowed := true, recurses := true, apart := false, narrowed := true }
def LinkBehindUptoSaid : Prop := linkBehindUptoRow.holds Try.pinned (OpenSpec.upto linkBehindSpec)

/-- 'delayslotlaw15.LinkTurned', WHERE WHAT IT READS IS OF BULK AT MOST 1048576: true; the input reads as it did. -/
def linkTurnedUptoRow : OpenClaim := { program := "ytmaepdebbijkiaa", sum := "262630fc0475b189c72f4be9f2303ab42bfc803cc829d506d1e199b7063f246d", func := "delayslot/delayslotlaw15.LinkTurned", spec := "linkTurned", unfollowed := true, recurses := true, apart := false, narrowed := true }
def LinkTurnedUptoSaid : Prop := linkTurnedUptoRow.holds Try.pinned (OpenSpec.upto linkTurnedSpec)

/-- 'delayslotlaw15.LinkOps', WHERE WHAT IT READS IS OF BULK AT MOST 1048576: true; the input reads as it did. -/
def linkOpsUptoRow : OpenClaim := { program := "ytmaepdebbijkiaa", sum := "262630fc0475b189c72f4be9f2303ab42bfc803cc829d506d1e199b7063f246d", func := "delayslot/delayslotlaw15.LinkOps", spec := "linkOps", unfollowed := true, recurses := true, apart := false, narrowed := true }
def LinkOpsUptoSaid : Prop := linkOpsUptoRow.holds Try.pinned (OpenSpec.upto linkOpsSpec)

/-- 'delayslotlaw15.LinkParts', WHERE WHAT IT READS IS OF BULK AT MOST 1048576: true; the input reads as it did. -/
def linkPartsUptoRow : OpenClaim := { program := "ytmaepdebbijkiaa", sum := "262630fc0475b189c72f4be9f2303ab42bfc803cc829d506d1e199b7063f246d", func := "delayslot/delayslotlaw15.LinkParts", spec := "linkParts", unfollowed := true, recurses := true, apart := false, narrowed := true }
def LinkPartsUptoSaid : Prop := linkPartsUptoRow.holds Try.pinned (OpenSpec.upto linkPartsSpec)

end Rows
end Go.Proofs.Ytmaepdebbijkiaa

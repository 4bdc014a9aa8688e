/-
  No cell of these rows narrows 'for every input' (looked for: loops, veiled, ifaces, maps, wideKeys, modest, calm, conditions, laid).
  DERIVED. THE GIVEN ROWS OF THIS SEAT. 6 by the template 'for every input the law returns true; each argument reads behind the call as it read before'; 0 by the template 'total and deterministic' (their statements: YtnodlolicndopaaTotals.lean).
  GIVEN WITH THE SEED: the statements are not yours to turn. If you find one false, say at which input.
  Laid BY PROGRAM, IN A SANDBOX (cutbox-rows.mjs): the forced cells as the released guide's own fill.sh prints them over the translation 55b0c35fa05fa47c… (all of the seat's roots in one cut). By AI agents, Wed Nov 11 2026. No macro, syntax, notation, axiom, sorry.
-/
import Derived.Test.YtnodlolicndopaaChecked
import GoSem.Claim
import GoSem.ClaimJoined
import GoSem.ClaimMapViews
import Derived.JoinedTies
import Derived.KernelRfl
namespace Go.Proofs.Ytnodlolicndopaa
/- THE CELL 'sum', in the pinned program and in every row, IS THE sha256 OF THE DUMP (.gsa) THAT YtnodlolicndopaaProg.lean LOADS. Nothing in Lean hashes anything: it is a label: what it is worth is what the hold of that sum in a sandbox is worth. -/
noncomputable def Try.pinned : Pinned := { name := "ytnodlolicndopaa", sum := "55b0c35fa05fa47c812d0e93a7d5182a58df5404f8259abe85d3a83b293ec51d", checked := Try.checked }
namespace Rows
def none {H : Type} : Left H := { results := [], args := [] }

/-- 'delayslotlaw02.IsaEncodes': WHATEVER THE INPUT: true; the input reads as it did. -/
def isaEncodesSpec : ChangeSpec := { name := "isaEncodes", fn := fun _ => fun
  | [d] => { results := [.lit (.bool true)], args := [d] }
  | _ => none }
def isaEncodesRow : OpenClaim := { program := "ytnodlolicndopaa", sum := "55b0c35fa05fa47c812d0e93a7d5182a58df5404f8259abe85d3a83b293ec51d", func := "delayslot/delayslotlaw02.IsaEncodes", spec := "isaEncodes", apart := false }
def IsaEncodesSaid : Prop := isaEncodesRow.holds Try.pinned (OpenSpec.ofChange isaEncodesSpec)

/-- ITS FALSE NEIGHBOUR: 'it returns false'. Refute it at one input. -/
def isaEncodesWrong : ChangeSpec := { name := "isaEncodes", fn := fun _ => fun
  | [d] => { results := [.lit (.bool false)], args := [d] }
  | _ => none }
def IsaEncodesWrongFalsely : Prop := isaEncodesRow.holds Try.pinned (OpenSpec.ofChange isaEncodesWrong)

/-- 'delayslotlaw02.IsaDecodes': WHATEVER THE INPUT: true; the input reads as it did. -/
def isaDecodesSpec : ChangeSpec := { name := "isaDecodes", fn := fun _ => fun
  | [d] => { results := [.lit (.bool true)], args := [d] }
  | _ => none }
def isaDecodesRow : OpenClaim := { program := "ytnodlolicndopaa", sum := "55b0c35fa05fa47c812d0e93a7d5182a58df5404f8259abe85d3a83b293ec51d", func := "delayslot/delayslotlaw02.IsaDecodes", spec := "isaDecodes", apart := false }
def IsaDecodesSaid : Prop := isaDecodesRow.holds Try.pinned (OpenSpec.ofChange isaDecodesSpec)

/-- ITS FALSE NEIGHBOUR: 'it returns false'. Refute it at one input. -/
def isaDecodesWrong : ChangeSpec := { name := "isaDecodes", fn := fun _ => fun
  | [d] => { results := [.lit (.bool false)], args := [d] }
  | _ => none }
def IsaDecodesWrongFalsely : Prop := isaDecodesRow.holds Try.pinned (OpenSpec.ofChange isaDecodesWrong)

/-- 'delayslotlaw02.IsaWords': WHATEVER THE INPUT: true; the input reads as it did. -/
def isaWordsSpec : ChangeSpec := { name := "isaWords", fn := fun _ => fun
  | [d] => { results := [.lit (.bool true)], args := [d] }
  | _ => none }
def isaWordsRow : OpenClaim := { program := "ytnodlolicndopaa", sum := "55b0c35fa05fa47c812d0e93a7d5182a58df5404f8259abe85d3a83b293ec51d", func := "delayslot/delayslotlaw02.IsaWords", spec := "isaWords", apart := false }
def IsaWordsSaid : Prop := isaWordsRow.holds Try.pinned (OpenSpec.ofChange isaWordsSpec)

/-- ITS FALSE NEIGHBOUR: 'it returns false'. Refute it at one input. -/
def isaWordsWrong : ChangeSpec := { name := "isaWords", fn := fun _ => fun
  | [d] => { results := [.lit (.bool false)], args := [d] }
  | _ => none }
def IsaWordsWrongFalsely : Prop := isaWordsRow.holds Try.pinned (OpenSpec.ofChange isaWordsWrong)

/-- 'delayslotlaw02.IsaThree': WHATEVER THE INPUT: true; the input reads as it did. -/
def isaThreeSpec : ChangeSpec := { name := "isaThree", fn := fun _ => fun
  | [d1, d2, d3, d4, d5] => { results := [.lit (.bool true)], args := [d1, d2, d3, d4, d5] }
  | _ => none }
def isaThreeRow : OpenClaim := { program := "ytnodlolicndopaa", sum := "55b0c35fa05fa47c812d0e93a7d5182a58df5404f8259abe85d3a83b293ec51d", func := "delayslot/delayslotlaw02.IsaThree", spec := "isaThree", apart := false }
def IsaThreeSaid : Prop := isaThreeRow.holds Try.pinned (OpenSpec.ofChange isaThreeSpec)

/-- ITS FALSE NEIGHBOUR: 'it returns false'. Refute it at one input. -/
def isaThreeWrong : ChangeSpec := { name := "isaThree", fn := fun _ => fun
  | [d1, d2, d3, d4, d5] => { results := [.lit (.bool false)], args := [d1, d2, d3, d4, d5] }
  | _ => none }
def IsaThreeWrongFalsely : Prop := isaThreeRow.holds Try.pinned (OpenSpec.ofChange isaThreeWrong)

/-- 'delayslotlaw02.IsaNumbers': WHATEVER THE INPUT: true; the input reads as it did. -/
def isaNumbersSpec : ChangeSpec := { name := "isaNumbers", fn := fun _ => fun
  | [d1, d2] => { results := [.lit (.bool true)], args := [d1, d2] }
  | _ => none }
def isaNumbersRow : OpenClaim := { program := "ytnodlolicndopaa", sum := "55b0c35fa05fa47c812d0e93a7d5182a58df5404f8259abe85d3a83b293ec51d", func := "delayslot/delayslotlaw02.IsaNumbers", spec := "isaNumbers", apart := false }
def IsaNumbersSaid : Prop := isaNumbersRow.holds Try.pinned (OpenSpec.ofChange isaNumbersSpec)

/-- ITS FALSE NEIGHBOUR: 'it returns false'. Refute it at one input. -/
def isaNumbersWrong : ChangeSpec := { name := "isaNumbers", fn := fun _ => fun
  | [d1, d2] => { results := [.lit (.bool false)], args := [d1, d2] }
  | _ => none }
def IsaNumbersWrongFalsely : Prop := isaNumbersRow.holds Try.pinned (OpenSpec.ofChange isaNumbersWrong)

/-- 'delayslotlaw02.IsaOthers': WHATEVER THE INPUT: true; the input reads as it did. -/
def isaOthersSpec : ChangeSpec := { name := "isaOthers", fn := fun _ => fun
  | [d1, d2] => { results := [.lit (.bool true)], args := [d1, d2] }
  | _ => none }
def isaOthersRow : OpenClaim := { program := "ytnodlolicndopaa", sum := "55b0c35fa05fa47c812d0e93a7d5182a58df5404f8259abe85d3a83b293ec51d", func := "delayslot/delayslotlaw02.IsaOthers", spec := "isaOthers", apart := false }
def IsaOthersSaid : Prop := isaOthersRow.holds Try.pinned (OpenSpec.ofChange isaOthersSpec)

/-- ITS FALSE NEIGHBOUR: 'it returns false'. Refute it at one input. -/
def isaOthersWrong : ChangeSpec := { name := "isaOthers", fn := fun _ => fun
  | [d1, d2] => { results := [.lit (.bool false)], args := [d1, d2] }
  | _ => none }
def IsaOthersWrongFalsely : Prop := isaOthersRow.holds Try.pinned (OpenSpec.ofChange isaOthersWrong)

/- THE SECOND FORM. 'bulk': how many values and letters a reading holds, each counted each time it is reached (what is shared counts as often as it is met; a slice's spare places count too). A statement '..UptoSaid' is the law's where the arguments, and the package variables that the reading takes, are together of bulk at most 1048576: NARROWER than '..Said'. Prove '..Said' where nothing that the law and all that it calls make is longer than what came in: it says more and counts as full. Else prove '..UptoSaid'. A law counts once. -/
mutual
def uptoBulk {H : Type} : DataW H → Nat
  | .lit (.string bytes) => bytes.length + 1
  | .lit _ => 1
  | .nil => 1
  | .ptr d => uptoBulk d + 1
  | .slice elems spare => uptoBulkAll elems + uptoBulkAll spare + 1
  | .agg parts => uptoBulkAll parts + 1
  | .iface _ d => uptoBulk d + 1
  | .map entries => uptoBulkEntries entries + 1
  | .held _ => 1
def uptoBulkAll {H : Type} : List (DataW H) → Nat
  | [] => 0
  | d :: r => uptoBulk d + uptoBulkAll r
def uptoBulkEntries {H : Type} : List (Lit × DataW H) → Nat
  | [] => 0
  | x :: r => uptoBulkEntry x + uptoBulkEntries r
def uptoBulkEntry {H : Type} : Lit × DataW H → Nat
  | (.string bytes, d) => bytes.length + uptoBulk d + 1
  | (_, d) => uptoBulk d + 1
 end
def uptoSmall : (H : Type) → List (DataW H) → Bool := fun _ ds => decide (uptoBulkAll ds ≤ 1048576)
def OpenSpec.upto (s : _root_.Go.ChangeSpec) : _root_.Go.OpenSpec := { _root_.Go.OpenSpec.ofChange s with cond := some uptoSmall }

/-- 'delayslotlaw02.IsaEncodes', WHERE WHAT IT READS IS OF BULK AT MOST 1048576: true; the input reads as it did. -/
def isaEncodesUptoRow : OpenClaim := { program := "ytnodlolicndopaa", sum := "55b0c35fa05fa47c812d0e93a7d5182a58df5404f8259abe85d3a83b293ec51d", func := "delayslot/delayslotlaw02.IsaEncodes", spec := "isaEncodes", apart := false, narrowed := true }
def IsaEncodesUptoSaid : Prop := isaEncodesUptoRow.holds Try.pinned (OpenSpec.upto isaEncodesSpec)

/-- 'delayslotlaw02.IsaDecodes', WHERE WHAT IT READS IS OF BULK AT MOST 1048576: true; the input reads as it did. -/
def isaDecodesUptoRow : OpenClaim := { program := "ytnodlolicndopaa", sum := "55b0c35fa05fa47c812d0e93a7d5182a58df5404f8259abe85d3a83b293ec51d", func := "delayslot/delayslotlaw02.IsaDecodes", spec := "isaDecodes", apart := false, narrowed := true }
def IsaDecodesUptoSaid : Prop := isaDecodesUptoRow.holds Try.pinned (OpenSpec.upto isaDecodesSpec)

/-- 'delayslotlaw02.IsaWords', WHERE WHAT IT READS IS OF BULK AT MOST 1048576: true; the input reads as it did. -/
def isaWordsUptoRow : OpenClaim := { program := "ytnodlolicndopaa", sum := "55b0c35fa05fa47c812d0e93a7d5182a58df5404f8259abe85d3a83b293ec51d", func := "delayslot/delayslotlaw02.IsaWords", spec := "isaWords", apart := false, narrowed := true }
def IsaWordsUptoSaid : Prop := isaWordsUptoRow.holds Try.pinned (OpenSpec.upto isaWordsSpec)

/-- 'delayslotlaw02.IsaThree', WHERE WHAT IT READS IS OF BULK AT MOST 1048576: true; the input reads as it did. -/
def isaThreeUptoRow : OpenClaim := { program := "ytnodlolicndopaa", sum := "55b0c35fa05fa47c812d0e93a7d5182a58df5404f8259abe85d3a83b293ec51d", func := "delayslot/delayslotlaw02.IsaThree", spec := "isaThree", apart := false, narrowed := true }
def IsaThreeUptoSaid : Prop := isaThreeUptoRow.holds Try.pinned (OpenSpec.upto isaThreeSpec)

/-- 'delayslotlaw02.IsaNumbers', WHERE WHAT IT READS IS OF BULK AT MOST 1048576: true; the input reads as it did. -/
def isaNumbersUptoRow : OpenClaim := { program := "ytnodlolicndopaa", sum := "55b0c35fa05fa47c812d0e93a7d5182a58df5404f8259abe85d3a83b293ec51d", func := "delayslot/delayslotlaw02.IsaNumbers", spec := "isaNumbers", apart := false, narrowed := true }
def IsaNumbersUptoSaid : Prop := isaNumbersUptoRow.holds Try.pinned (OpenSpec.upto isaNumbersSpec)

/-- 'delayslotlaw02.IsaOthers', WHERE WHAT IT READS IS OF BULK AT MOST 1048576: true; the input reads as it did. -/
def isaOthersUptoRow : OpenClaim := { program := "ytnodlolicndopaa", sum := "55b0c35fa05fa47c812d0e93a7d5182a58df5404f8259abe85d3a83b293ec51d", func := "delayslot/delayslotlaw02.IsaOthers", spec := "isaOthers", apart := false, narrowed := true }
def IsaOthersUptoSaid : Prop := isaOthersUptoRow.holds Try.pinned (OpenSpec.upto isaOthersSpec)

end Rows
end Go.Proofs.Ytnodlolicndopaa

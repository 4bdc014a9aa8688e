/-
  No cell of these rows narrows 'for every input' (looked for: loops, veiled, ifaces, maps, wideKeys, modest, calm, conditions, laid).
  DERIVED. THE GIVEN ROWS OF THIS SEAT. 4 by the template 'for every input the law returns true; each argument reads behind the call as it read before'; 0 by the template 'total and deterministic' (their statements: YtdjjlpgphkbehaaTotals.lean).
  GIVEN WITH THE SEED: the statements are not yours to turn. If you find one false, say at which input.
  Laid BY PROGRAM, IN A SANDBOX (cutbox-rows.mjs): the forced cells as the released guide's own fill.sh prints them over the translation 7499ff02e3352fdb… (all of the seat's roots in one cut). By AI agents, Wed Nov 11 2026. No macro, syntax, notation, axiom, sorry.
-/
import Derived.Test.YtdjjlpgphkbehaaChecked
import GoSem.Claim
import GoSem.ClaimJoined
import GoSem.ClaimMapViews
import Derived.JoinedTies
import Derived.KernelRfl
namespace Go.Proofs.Ytdjjlpgphkbehaa
/- THE CELL 'sum', in the pinned program and in every row, IS THE sha256 OF THE DUMP (.gsa) THAT YtdjjlpgphkbehaaProg.lean LOADS. Nothing in Lean hashes anything: it is a label: what it is worth is what the hold of that sum in a sandbox is worth. -/
noncomputable def Try.pinned : Pinned := { name := "ytdjjlpgphkbehaa", sum := "7499ff02e3352fdbb517bf6a94d08ebfbaa76159ea7743ba39f8e01edcfc69de", checked := Try.checked }
namespace Rows
def none {H : Type} : Left H := { results := [], args := [] }

/-- 'delayslotlaw17.ScopeBack': WHATEVER THE INPUT: true; the input reads as it did. -/
def scopeBackSpec : ChangeSpec := { name := "scopeBack", fn := fun _ => fun
  | [d1, d2, d3] => { results := [.lit (.bool true)], args := [d1, d2, d3] }
  | _ => none }
def scopeBackRow : OpenClaim := { program := "ytdjjlpgphkbehaa", sum := "7499ff02e3352fdbb517bf6a94d08ebfbaa76159ea7743ba39f8e01edcfc69de", func := "delayslot/delayslotlaw17.ScopeBack", spec := "scopeBack", apart := false }
def ScopeBackSaid : Prop := scopeBackRow.holds Try.pinned (OpenSpec.ofChange scopeBackSpec)

/-- ITS FALSE NEIGHBOUR: 'it returns false'. Refute it at one input. -/
def scopeBackWrong : ChangeSpec := { name := "scopeBack", fn := fun _ => fun
  | [d1, d2, d3] => { results := [.lit (.bool false)], args := [d1, d2, d3] }
  | _ => none }
def ScopeBackWrongFalsely : Prop := scopeBackRow.holds Try.pinned (OpenSpec.ofChange scopeBackWrong)

/-- 'delayslotlaw17.ScopeDeep': WHATEVER THE INPUT: true; the input reads as it did. -/
def scopeDeepSpec : ChangeSpec := { name := "scopeDeep", fn := fun _ => fun
  | [d1, d2] => { results := [.lit (.bool true)], args := [d1, d2] }
  | _ => none }
def scopeDeepRow : OpenClaim := { program := "ytdjjlpgphkbehaa", sum := "7499ff02e3352fdbb517bf6a94d08ebfbaa76159ea7743ba39f8e01edcfc69de", func := "delayslot/delayslotlaw17.ScopeDeep", spec := "scopeDeep", apart := false }
def ScopeDeepSaid : Prop := scopeDeepRow.holds Try.pinned (OpenSpec.ofChange scopeDeepSpec)

/-- ITS FALSE NEIGHBOUR: 'it returns false'. Refute it at one input. -/
def scopeDeepWrong : ChangeSpec := { name := "scopeDeep", fn := fun _ => fun
  | [d1, d2] => { results := [.lit (.bool false)], args := [d1, d2] }
  | _ => none }
def ScopeDeepWrongFalsely : Prop := scopeDeepRow.holds Try.pinned (OpenSpec.ofChange scopeDeepWrong)

/-- 'delayslotlaw17.ScopePlays': WHATEVER THE INPUT: true; the input reads as it did. -/
def scopePlaysSpec : ChangeSpec := { name := "scopePlays", fn := fun _ => fun
  | [d1, d2] => { results := [.lit (.bool true)], args := [d1, d2] }
  | _ => none }
def scopePlaysRow : OpenClaim := { program := "ytdjjlpgphkbehaa", sum := "7499ff02e3352fdbb517bf6a94d08ebfbaa76159ea7743ba39f8e01edcfc69de", func := "delayslot/delayslotlaw17.ScopePlays", spec := "scopePlays", unfollowed := true, recurses := true, apart := false }
def ScopePlaysSaid : Prop := scopePlaysRow.holds Try.pinned (OpenSpec.ofChange scopePlaysSpec)

/-- ITS FALSE NEIGHBOUR: 'it returns false'. Refute it at one input. -/
def scopePlaysWrong : ChangeSpec := { name := "scopePlays", fn := fun _ => fun
  | [d1, d2] => { results := [.lit (.bool false)], args := [d1, d2] }
  | _ => none }
def ScopePlaysWrongFalsely : Prop := scopePlaysRow.holds Try.pinned (OpenSpec.ofChange scopePlaysWrong)

/-- 'delayslotlaw17.ScopeOrder': WHATEVER THE INPUT: true; the input reads as it did. -/
def scopeOrderSpec : ChangeSpec := { name := "scopeOrder", fn := fun _ => fun
  | [d1, d2] => { results := [.lit (.bool true)], args := [d1, d2] }
  | _ => none }
def scopeOrderRow : OpenClaim := { program := "ytdjjlpgphkbehaa", sum := "7499ff02e3352fdbb517bf6a94d08ebfbaa76159ea7743ba39f8e01edcfc69de", func := "delayslot/delayslotlaw17.ScopeOrder", spec := "scopeOrder", unfollowed := true, recurses := true, apart := false }
def ScopeOrderSaid : Prop := scopeOrderRow.holds Try.pinned (OpenSpec.ofChange scopeOrderSpec)

/-- ITS FALSE NEIGHBOUR: 'it returns false'. Refute it at one input. -/
def scopeOrderWrong : ChangeSpec := { name := "scopeOrder", fn := fun _ => fun
  | [d1, d2] => { results := [.lit (.bool false)], args := [d1, d2] }
  | _ => none }
def ScopeOrderWrongFalsely : Prop := scopeOrderRow.holds Try.pinned (OpenSpec.ofChange scopeOrderWrong)

/- THE SECOND FORM. 'bulk': how many values and letters a reading holds, each counted each time it is reached (what is shared counts as often as it is met; a slice's spare places count too). A statement '..UptoSaid' is the law's where the arguments, and the package variables that the reading takes, are together of bulk at most 1048576: NARROWER than '..Said'. Prove '..Said' where nothing that the law and all that it calls make is longer than what came in: it says more and counts as full. Else prove '..UptoSaid'. A law counts once. -/
mutual
def uptoBulk {H : Type} : DataW H → Nat
  | .lit (.string bytes) => bytes.length + 1
  | .lit _ => 1
  | .nil => 1
  | .ptr d => uptoBulk d + 1
  | .slice elems spare => uptoBulkAll elems + uptoBulkAll spare + 1
  | .agg parts => uptoBulkAll parts + 1
  | .iface _ d => uptoBulk d + 1
  | .map entries => uptoBulkEntries entries + 1
  | .held _ => 1
def uptoBulkAll {H : Type} : List (DataW H) → Nat
  | [] => 0
  | d :: r => uptoBulk d + uptoBulkAll r
def uptoBulkEntries {H : Type} : List (Lit × DataW H) → Nat
  | [] => 0
  | x :: r => uptoBulkEntry x + uptoBulkEntries r
def uptoBulkEntry {H : Type} : Lit × DataW H → Nat
  | (.string bytes, d) => bytes.length + uptoBulk d + 1
  | (_, d) => uptoBulk d + 1
 end
def uptoSmall : (H : Type) → List (DataW H) → Bool := fun _ ds => decide (uptoBulkAll ds ≤ 1048576)
def OpenSpec.upto (s : _root_.Go.ChangeSpec) : _root_.Go.OpenSpec := { _root_.Go.OpenSpec.ofChange s with cond := some uptoSmall }

/-- 'delayslotlaw17.ScopeBack', WHERE WHAT IT READS IS OF BULK AT MOST 1048576: true; the input reads as it did. -/
def scopeBackUptoRow : OpenClaim := { program := "ytdjjlpgphkbehaa", sum := "7499ff02e3352fdbb517bf6a94d08ebfbaa76159ea7743ba39f8e01edcfc69de", func := "delayslot/delayslotlaw17.ScopeBack", spec := "scopeBack", apart := false, narrowed := true }
def ScopeBackUptoSaid : Prop := scopeBackUptoRow.holds Try.pinned (OpenSpec.upto scopeBackSpec)

/-- 'delayslotlaw17.ScopeDeep', WHERE WHAT IT READS IS OF BULK AT MOST 1048576: true; the input reads as it did. -/
def scopeDeepUptoRow : OpenClaim := { program := "ytdjjlpgphkbehaa", sum := "7499ff02e3352fdbb517bf6a94d08ebfbaa76159ea7743ba39f8e01edcfc69de", func := "delayslot/delayslotlaw17.ScopeDeep", spec := "scopeDeep", apart := false, narrowed := true }
def ScopeDeepUptoSaid : Prop := scopeDeepUptoRow.holds Try.pinned (OpenSpec.upto scopeDeepSpec)

/-- 'delayslotlaw17.ScopePlays', WHERE WHAT IT READS IS OF BULK AT MOST 1048576: true; the input reads as it did. -/
def scopePlaysUptoRow : OpenClaim := { program := "ytdjjlpgphkbehaa", sum := "7499ff02e3352fdbb517bf6a94d08ebfbaa76159ea7743ba39f8e01edcfc69de", func := "delayslot/delayslotlaw17.ScopePlays", spec := "scopePlays", unfollowed := true, recurses := true, apart := false, narrowed := true }
def ScopePlaysUptoSaid : Prop := scopePlaysUptoRow.holds Try.pinned (OpenSpec.upto scopePlaysSpec)

/-- 'delayslotlaw17.ScopeOrder', WHERE WHAT IT READS IS OF BULK AT MOST 1048576: true; the input reads as it did. -/
def scopeOrderUptoRow : OpenClaim := { program := "ytdjjlpgphkbehaa", sum := "7499ff02e3352fdbb517bf6a94d08ebfbaa76159ea7743ba39f8e01edcfc69de", func := "delayslot/delayslotlaw17.ScopeOrder", spec := "scopeOrder", unfollowed := true, recurses := true, apart := false, narrowed := true }
def ScopeOrderUptoSaid : Prop := scopeOrderUptoRow.holds Try.pinned (OpenSpec.upto scopeOrderSpec)

end Rows
end Go.Proofs.Ytdjjlpgphkbehaa

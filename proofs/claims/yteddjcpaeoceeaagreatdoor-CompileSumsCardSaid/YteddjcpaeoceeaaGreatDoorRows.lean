/-
  NARROWER THAN 'FOR EVERY INPUT', by the rows' own cells (each row's printed sentence says how): CompileRuns: laid · CompileSums: laid · CompileOps: laid · CompileDivs: laid · CompileLists: laid · CompileCalls: laid · CompileEcho: laid · CompileIfs: laid · CompileOwn: laid.
  DERIVED. THE GIVEN ROWS OF THIS SEAT. 9 by the template 'for every input the law returns true; each argument reads behind the call as it read before'; 0 by the template 'total and deterministic' (their statements: YteddjcpaeoceeaaGreatDoorTotals.lean).
  GIVEN WITH THE SEED: the statements are not yours to turn. If you find one false, say at which input.
  Laid BY PROGRAM, IN A SANDBOX (cutbox-rows.mjs): the forced cells as the released guide's own fill.sh prints them over the translation 0285c7bf561e4874… (all of the seat's roots in one cut). By AI agents, Wed Nov 11 2026. No macro, syntax, notation, axiom, sorry.
-/
import Derived.Test.YteddjcpaeoceeaaGreatDoorChecked
import GoSem.Claim
import GoSem.ClaimJoined
import GoSem.ClaimMapViews
import Derived.JoinedTies
import Derived.KernelRfl
namespace Go.Proofs.YteddjcpaeoceeaaGreatDoor
/- THE CELL 'sum', in the pinned program and in every row, IS THE sha256 OF THE DUMP (.gsa) THAT YteddjcpaeoceeaaGreatDoorProg.lean LOADS. Nothing in Lean hashes anything: it is a label: what it is worth is what the hold of that sum in a sandbox is worth. -/
noncomputable def Tryz.pinned : Pinned := { name := "yteddjcpaeoceeaagreatdoor", sum := "0285c7bf561e48747a1f5ad9ce83423e8d6de4f5ae719fb765b0cadeb71f21e8", checked := Tryz.checked }
namespace Rows
def none {H : Type} : Left H := { results := [], args := [] }

/- WHAT THE LISTED PACKAGE-LEVEL VARIABLES READ AS WHEN THE CALL BEGINS. Each datum BY PROGRAM (the guide's laid-datum.mjs) off the statement by which the dump's own 'gosem.cut.vars' lays the variable. In a bare row this is a premise. The card (YteddjcpaeoceeaaGreatDoorCards.lean) ties it to the program's text. -/
def laid_unicode_White_Space {H : Type} : DataW H := .ptr (.agg [.slice [.agg [.lit (.int .u16 9), .lit (.int .u16 13), .lit (.int .u16 1)], .agg [.lit (.int .u16 32), .lit (.int .u16 133), .lit (.int .u16 101)], .agg [.lit (.int .u16 160), .lit (.int .u16 5760), .lit (.int .u16 5600)], .agg [.lit (.int .u16 8192), .lit (.int .u16 8202), .lit (.int .u16 1)], .agg [.lit (.int .u16 8232), .lit (.int .u16 8233), .lit (.int .u16 1)], .agg [.lit (.int .u16 8239), .lit (.int .u16 8287), .lit (.int .u16 48)], .agg [.lit (.int .u16 12288), .lit (.int .u16 12288), .lit (.int .u16 1)]] [], .nil, .lit (.int .i64 2)])
def laid_strings_asciiSpace {H : Type} : DataW H := .agg [.lit (.int .u8 0), .lit (.int .u8 0), .lit (.int .u8 0), .lit (.int .u8 0), .lit (.int .u8 0), .lit (.int .u8 0), .lit (.int .u8 0), .lit (.int .u8 0), .lit (.int .u8 0), .lit (.int .u8 1), .lit (.int .u8 1), .lit (.int .u8 1), .lit (.int .u8 1), .lit (.int .u8 1), .lit (.int .u8 0), .lit (.int .u8 0), .lit (.int .u8 0), .lit (.int .u8 0), .lit (.int .u8 0), .lit (.int .u8 0), .lit (.int .u8 0), .lit (.int .u8 0), .lit (.int .u8 0), .lit (.int .u8 0), .lit (.int .u8 0), .lit (.int .u8 0), .lit (.int .u8 0), .lit (.int .u8 0), .lit (.int .u8 0), .lit (.int .u8 0), .lit (.int .u8 0), .lit (.int .u8 0), .lit (.int .u8 1), .lit (.int .u8 0), .lit (.int .u8 0), .lit (.int .u8 0), .lit (.int .u8 0), .lit (.int .u8 0), .lit (.int .u8 0), .lit (.int .u8 0), .lit (.int .u8 0), .lit (.int .u8 0), .lit (.int .u8 0), .lit (.int .u8 0), .lit (.int .u8 0), .lit (.int .u8 0), .lit (.int .u8 0), .lit (.int .u8 0), .lit (.int .u8 0), .lit (.int .u8 0), .lit (.int .u8 0), .lit (.int .u8 0), .lit (.int .u8 0), .lit (.int .u8 0), .lit (.int .u8 0), .lit (.int .u8 0), .lit (.int .u8 0), .lit (.int .u8 0), .lit (.int .u8 0), .lit (.int .u8 0), .lit (.int .u8 0), .lit (.int .u8 0), .lit (.int .u8 0), .lit (.int .u8 0), .lit (.int .u8 0), .lit (.int .u8 0), .lit (.int .u8 0), .lit (.int .u8 0), .lit (.int .u8 0), .lit (.int .u8 0), .lit (.int .u8 0), .lit (.int .u8 0), .lit (.int .u8 0), .lit (.int .u8 0), .lit (.int .u8 0), .lit (.int .u8 0), .lit (.int .u8 0), .lit (.int .u8 0), .lit (.int .u8 0), .lit (.int .u8 0), .lit (.int .u8 0), .lit (.int .u8 0), .lit (.int .u8 0), .lit (.int .u8 0), .lit (.int .u8 0), .lit (.int .u8 0), .lit (.int .u8 0), .lit (.int .u8 0), .lit (.int .u8 0), .lit (.int .u8 0), .lit (.int .u8 0), .lit (.int .u8 0), .lit (.int .u8 0), .lit (.int .u8 0), .lit (.int .u8 0), .lit (.int .u8 0), .lit (.int .u8 0), .lit (.int .u8 0), .lit (.int .u8 0), .lit (.int .u8 0), .lit (.int .u8 0), .lit (.int .u8 0), .lit (.int .u8 0), .lit (.int .u8 0), .lit (.int .u8 0), .lit (.int .u8 0), .lit (.int .u8 0), .lit (.int .u8 0), .lit (.int .u8 0), .lit (.int .u8 0), .lit (.int .u8 0), .lit (.int .u8 0), .lit (.int .u8 0), .lit (.int .u8 0), .lit (.int .u8 0), .lit (.int .u8 0), .lit (.int .u8 0), .lit (.int .u8 0), .lit (.int .u8 0), .lit (.int .u8 0), .lit (.int .u8 0), .lit (.int .u8 0), .lit (.int .u8 0), .lit (.int .u8 0), .lit (.int .u8 0), .lit (.int .u8 0), .lit (.int .u8 0), .lit (.int .u8 0), .lit (.int .u8 0), .lit (.int .u8 0), .lit (.int .u8 0), .lit (.int .u8 0), .lit (.int .u8 0), .lit (.int .u8 0), .lit (.int .u8 0), .lit (.int .u8 0), .lit (.int .u8 0), .lit (.int .u8 0), .lit (.int .u8 0), .lit (.int .u8 0), .lit (.int .u8 0), .lit (.int .u8 0), .lit (.int .u8 0), .lit (.int .u8 0), .lit (.int .u8 0), .lit (.int .u8 0), .lit (.int .u8 0), .lit (.int .u8 0), .lit (.int .u8 0), .lit (.int .u8 0), .lit (.int .u8 0), .lit (.int .u8 0), .lit (.int .u8 0), .lit (.int .u8 0), .lit (.int .u8 0), .lit (.int .u8 0), .lit (.int .u8 0), .lit (.int .u8 0), .lit (.int .u8 0), .lit (.int .u8 0), .lit (.int .u8 0), .lit (.int .u8 0), .lit (.int .u8 0), .lit (.int .u8 0), .lit (.int .u8 0), .lit (.int .u8 0), .lit (.int .u8 0), .lit (.int .u8 0), .lit (.int .u8 0), .lit (.int .u8 0), .lit (.int .u8 0), .lit (.int .u8 0), .lit (.int .u8 0), .lit (.int .u8 0), .lit (.int .u8 0), .lit (.int .u8 0), .lit (.int .u8 0), .lit (.int .u8 0), .lit (.int .u8 0), .lit (.int .u8 0), .lit (.int .u8 0), .lit (.int .u8 0), .lit (.int .u8 0), .lit (.int .u8 0), .lit (.int .u8 0), .lit (.int .u8 0), .lit (.int .u8 0), .lit (.int .u8 0), .lit (.int .u8 0), .lit (.int .u8 0), .lit (.int .u8 0), .lit (.int .u8 0), .lit (.int .u8 0), .lit (.int .u8 0), .lit (.int .u8 0), .lit (.int .u8 0), .lit (.int .u8 0), .lit (.int .u8 0), .lit (.int .u8 0), .lit (.int .u8 0), .lit (.int .u8 0), .lit (.int .u8 0), .lit (.int .u8 0), .lit (.int .u8 0), .lit (.int .u8 0), .lit (.int .u8 0), .lit (.int .u8 0), .lit (.int .u8 0), .lit (.int .u8 0), .lit (.int .u8 0), .lit (.int .u8 0), .lit (.int .u8 0), .lit (.int .u8 0), .lit (.int .u8 0), .lit (.int .u8 0), .lit (.int .u8 0), .lit (.int .u8 0), .lit (.int .u8 0), .lit (.int .u8 0), .lit (.int .u8 0), .lit (.int .u8 0), .lit (.int .u8 0), .lit (.int .u8 0), .lit (.int .u8 0), .lit (.int .u8 0), .lit (.int .u8 0), .lit (.int .u8 0), .lit (.int .u8 0), .lit (.int .u8 0), .lit (.int .u8 0), .lit (.int .u8 0), .lit (.int .u8 0), .lit (.int .u8 0), .lit (.int .u8 0), .lit (.int .u8 0), .lit (.int .u8 0), .lit (.int .u8 0), .lit (.int .u8 0), .lit (.int .u8 0), .lit (.int .u8 0), .lit (.int .u8 0), .lit (.int .u8 0), .lit (.int .u8 0), .lit (.int .u8 0), .lit (.int .u8 0), .lit (.int .u8 0), .lit (.int .u8 0), .lit (.int .u8 0), .lit (.int .u8 0), .lit (.int .u8 0), .lit (.int .u8 0), .lit (.int .u8 0), .lit (.int .u8 0), .lit (.int .u8 0), .lit (.int .u8 0), .lit (.int .u8 0)]

/-- 'delayslotlaw19.CompileRuns': WHATEVER THE INPUT: true; the input reads as it did. -/
def compileRunsSpec : ChangeSpec := { name := "compileRuns", fn := fun _ => fun
  | [d1, d2, d3] => { results := [.lit (.bool true)], args := [d1, d2, d3] }
  | _ => none }
def compileRunsRow : OpenClaim := { program := "yteddjcpaeoceeaagreatdoor", sum := "0285c7bf561e48747a1f5ad9ce83423e8d6de4f5ae719fb765b0cadeb71f21e8", func := "delayslot/delayslotlaw19.CompileRuns", spec := "compileRuns", inPlace := ["internal/bytealg.IndexByteString"], unfollowed := true, recurses := true, named := ["strings.asciiSpace", "unicode.White_Space"], apart := false, laid := [("unicode.White_Space", laid_unicode_White_Space), ("strings.asciiSpace", laid_strings_asciiSpace)] }
def CompileRunsSaid : Prop := compileRunsRow.holds Tryz.pinned (OpenSpec.ofChange compileRunsSpec)

/-- ITS FALSE NEIGHBOUR: 'it returns false'. Refute it at one input. -/
def compileRunsWrong : ChangeSpec := { name := "compileRuns", fn := fun _ => fun
  | [d1, d2, d3] => { results := [.lit (.bool false)], args := [d1, d2, d3] }
  | _ => none }
def CompileRunsWrongFalsely : Prop := compileRunsRow.holds Tryz.pinned (OpenSpec.ofChange compileRunsWrong)

/-- 'delayslotlaw19.CompileSums': WHATEVER THE INPUT: true; the input reads as it did. -/
def compileSumsSpec : ChangeSpec := { name := "compileSums", fn := fun _ => fun
  | [d1, d2] => { results := [.lit (.bool true)], args := [d1, d2] }
  | _ => none }
def compileSumsRow : OpenClaim := { program := "yteddjcpaeoceeaagreatdoor", sum := "0285c7bf561e48747a1f5ad9ce83423e8d6de4f5ae719fb765b0cadeb71f21e8", func := "delayslot/delayslotlaw19.CompileSums", spec := "compileSums", inPlace := ["internal/bytealg.IndexByteString"], unfollowed := true, recurses := true, named := ["strings.asciiSpace", "unicode.White_Space"], apart := false, laid := [("unicode.White_Space", laid_unicode_White_Space), ("strings.asciiSpace", laid_strings_asciiSpace)] }
def CompileSumsSaid : Prop := compileSumsRow.holds Tryz.pinned (OpenSpec.ofChange compileSumsSpec)

/-- ITS FALSE NEIGHBOUR: 'it returns false'. Refute it at one input. -/
def compileSumsWrong : ChangeSpec := { name := "compileSums", fn := fun _ => fun
  | [d1, d2] => { results := [.lit (.bool false)], args := [d1, d2] }
  | _ => none }
def CompileSumsWrongFalsely : Prop := compileSumsRow.holds Tryz.pinned (OpenSpec.ofChange compileSumsWrong)

/-- 'delayslotlaw19.CompileOps': WHATEVER THE INPUT: true; the input reads as it did. -/
def compileOpsSpec : ChangeSpec := { name := "compileOps", fn := fun _ => fun
  | [d1, d2] => { results := [.lit (.bool true)], args := [d1, d2] }
  | _ => none }
def compileOpsRow : OpenClaim := { program := "yteddjcpaeoceeaagreatdoor", sum := "0285c7bf561e48747a1f5ad9ce83423e8d6de4f5ae719fb765b0cadeb71f21e8", func := "delayslot/delayslotlaw19.CompileOps", spec := "compileOps", inPlace := ["internal/bytealg.IndexByteString"], unfollowed := true, recurses := true, named := ["strings.asciiSpace", "unicode.White_Space"], apart := false, laid := [("unicode.White_Space", laid_unicode_White_Space), ("strings.asciiSpace", laid_strings_asciiSpace)] }
def CompileOpsSaid : Prop := compileOpsRow.holds Tryz.pinned (OpenSpec.ofChange compileOpsSpec)

/-- ITS FALSE NEIGHBOUR: 'it returns false'. Refute it at one input. -/
def compileOpsWrong : ChangeSpec := { name := "compileOps", fn := fun _ => fun
  | [d1, d2] => { results := [.lit (.bool false)], args := [d1, d2] }
  | _ => none }
def CompileOpsWrongFalsely : Prop := compileOpsRow.holds Tryz.pinned (OpenSpec.ofChange compileOpsWrong)

/-- 'delayslotlaw19.CompileDivs': WHATEVER THE INPUT: true; the input reads as it did. -/
def compileDivsSpec : ChangeSpec := { name := "compileDivs", fn := fun _ => fun
  | [d1, d2] => { results := [.lit (.bool true)], args := [d1, d2] }
  | _ => none }
def compileDivsRow : OpenClaim := { program := "yteddjcpaeoceeaagreatdoor", sum := "0285c7bf561e48747a1f5ad9ce83423e8d6de4f5ae719fb765b0cadeb71f21e8", func := "delayslot/delayslotlaw19.CompileDivs", spec := "compileDivs", inPlace := ["internal/bytealg.IndexByteString"], unfollowed := true, recurses := true, named := ["strings.asciiSpace", "unicode.White_Space"], apart := false, laid := [("unicode.White_Space", laid_unicode_White_Space), ("strings.asciiSpace", laid_strings_asciiSpace)] }
def CompileDivsSaid : Prop := compileDivsRow.holds Tryz.pinned (OpenSpec.ofChange compileDivsSpec)

/-- ITS FALSE NEIGHBOUR: 'it returns false'. Refute it at one input. -/
def compileDivsWrong : ChangeSpec := { name := "compileDivs", fn := fun _ => fun
  | [d1, d2] => { results := [.lit (.bool false)], args := [d1, d2] }
  | _ => none }
def CompileDivsWrongFalsely : Prop := compileDivsRow.holds Tryz.pinned (OpenSpec.ofChange compileDivsWrong)

/-- 'delayslotlaw19.CompileLists': WHATEVER THE INPUT: true; the input reads as it did. -/
def compileListsSpec : ChangeSpec := { name := "compileLists", fn := fun _ => fun
  | [d] => { results := [.lit (.bool true)], args := [d] }
  | _ => none }
def compileListsRow : OpenClaim := { program := "yteddjcpaeoceeaagreatdoor", sum := "0285c7bf561e48747a1f5ad9ce83423e8d6de4f5ae719fb765b0cadeb71f21e8", func := "delayslot/delayslotlaw19.CompileLists", spec := "compileLists", inPlace := ["internal/bytealg.IndexByteString"], unfollowed := true, recurses := true, named := ["strings.asciiSpace", "unicode.White_Space"], apart := false, laid := [("unicode.White_Space", laid_unicode_White_Space), ("strings.asciiSpace", laid_strings_asciiSpace)] }
def CompileListsSaid : Prop := compileListsRow.holds Tryz.pinned (OpenSpec.ofChange compileListsSpec)

/-- ITS FALSE NEIGHBOUR: 'it returns false'. Refute it at one input. -/
def compileListsWrong : ChangeSpec := { name := "compileLists", fn := fun _ => fun
  | [d] => { results := [.lit (.bool false)], args := [d] }
  | _ => none }
def CompileListsWrongFalsely : Prop := compileListsRow.holds Tryz.pinned (OpenSpec.ofChange compileListsWrong)

/-- 'delayslotlaw19.CompileCalls': WHATEVER THE INPUT: true; the input reads as it did. -/
def compileCallsSpec : ChangeSpec := { name := "compileCalls", fn := fun _ => fun
  | [d1, d2] => { results := [.lit (.bool true)], args := [d1, d2] }
  | _ => none }
def compileCallsRow : OpenClaim := { program := "yteddjcpaeoceeaagreatdoor", sum := "0285c7bf561e48747a1f5ad9ce83423e8d6de4f5ae719fb765b0cadeb71f21e8", func := "delayslot/delayslotlaw19.CompileCalls", spec := "compileCalls", inPlace := ["internal/bytealg.IndexByteString"], unfollowed := true, recurses := true, named := ["strings.asciiSpace", "unicode.White_Space"], apart := false, laid := [("unicode.White_Space", laid_unicode_White_Space), ("strings.asciiSpace", laid_strings_asciiSpace)] }
def CompileCallsSaid : Prop := compileCallsRow.holds Tryz.pinned (OpenSpec.ofChange compileCallsSpec)

/-- ITS FALSE NEIGHBOUR: 'it returns false'. Refute it at one input. -/
def compileCallsWrong : ChangeSpec := { name := "compileCalls", fn := fun _ => fun
  | [d1, d2] => { results := [.lit (.bool false)], args := [d1, d2] }
  | _ => none }
def CompileCallsWrongFalsely : Prop := compileCallsRow.holds Tryz.pinned (OpenSpec.ofChange compileCallsWrong)

/-- 'delayslotlaw19.CompileEcho': WHATEVER THE INPUT: true; the input reads as it did. -/
def compileEchoSpec : ChangeSpec := { name := "compileEcho", fn := fun _ => fun
  | [d] => { results := [.lit (.bool true)], args := [d] }
  | _ => none }
def compileEchoRow : OpenClaim := { program := "yteddjcpaeoceeaagreatdoor", sum := "0285c7bf561e48747a1f5ad9ce83423e8d6de4f5ae719fb765b0cadeb71f21e8", func := "delayslot/delayslotlaw19.CompileEcho", spec := "compileEcho", inPlace := ["internal/bytealg.IndexByteString"], unfollowed := true, recurses := true, named := ["strings.asciiSpace", "unicode.White_Space"], apart := false, laid := [("unicode.White_Space", laid_unicode_White_Space), ("strings.asciiSpace", laid_strings_asciiSpace)] }
def CompileEchoSaid : Prop := compileEchoRow.holds Tryz.pinned (OpenSpec.ofChange compileEchoSpec)

/-- ITS FALSE NEIGHBOUR: 'it returns false'. Refute it at one input. -/
def compileEchoWrong : ChangeSpec := { name := "compileEcho", fn := fun _ => fun
  | [d] => { results := [.lit (.bool false)], args := [d] }
  | _ => none }
def CompileEchoWrongFalsely : Prop := compileEchoRow.holds Tryz.pinned (OpenSpec.ofChange compileEchoWrong)

/-- 'delayslotlaw19.CompileIfs': WHATEVER THE INPUT: true; the input reads as it did. -/
def compileIfsSpec : ChangeSpec := { name := "compileIfs", fn := fun _ => fun
  | [d1, d2] => { results := [.lit (.bool true)], args := [d1, d2] }
  | _ => none }
def compileIfsRow : OpenClaim := { program := "yteddjcpaeoceeaagreatdoor", sum := "0285c7bf561e48747a1f5ad9ce83423e8d6de4f5ae719fb765b0cadeb71f21e8", func := "delayslot/delayslotlaw19.CompileIfs", spec := "compileIfs", inPlace := ["internal/bytealg.IndexByteString"], unfollowed := true, recurses := true, named := ["strings.asciiSpace", "unicode.White_Space"], apart := false, laid := [("unicode.White_Space", laid_unicode_White_Space), ("strings.asciiSpace", laid_strings_asciiSpace)] }
def CompileIfsSaid : Prop := compileIfsRow.holds Tryz.pinned (OpenSpec.ofChange compileIfsSpec)

/-- ITS FALSE NEIGHBOUR: 'it returns false'. Refute it at one input. -/
def compileIfsWrong : ChangeSpec := { name := "compileIfs", fn := fun _ => fun
  | [d1, d2] => { results := [.lit (.bool false)], args := [d1, d2] }
  | _ => none }
def CompileIfsWrongFalsely : Prop := compileIfsRow.holds Tryz.pinned (OpenSpec.ofChange compileIfsWrong)

/-- 'delayslotlaw19.CompileOwn': WHATEVER THE INPUT: true; the input reads as it did. -/
def compileOwnSpec : ChangeSpec := { name := "compileOwn", fn := fun _ => fun
  | [d] => { results := [.lit (.bool true)], args := [d] }
  | _ => none }
def compileOwnRow : OpenClaim := { program := "yteddjcpaeoceeaagreatdoor", sum := "0285c7bf561e48747a1f5ad9ce83423e8d6de4f5ae719fb765b0cadeb71f21e8", func := "delayslot/delayslotlaw19.CompileOwn", spec := "compileOwn", inPlace := ["internal/bytealg.IndexByteString"], unfollowed := true, recurses := true, named := ["strings.asciiSpace", "unicode.White_Space"], apart := false, laid := [("unicode.White_Space", laid_unicode_White_Space), ("strings.asciiSpace", laid_strings_asciiSpace)] }
def CompileOwnSaid : Prop := compileOwnRow.holds Tryz.pinned (OpenSpec.ofChange compileOwnSpec)

/-- ITS FALSE NEIGHBOUR: 'it returns false'. Refute it at one input. -/
def compileOwnWrong : ChangeSpec := { name := "compileOwn", fn := fun _ => fun
  | [d] => { results := [.lit (.bool false)], args := [d] }
  | _ => none }
def CompileOwnWrongFalsely : Prop := compileOwnRow.holds Tryz.pinned (OpenSpec.ofChange compileOwnWrong)

/- THE SECOND FORM. 'bulk': how many values and letters a reading holds, each counted each time it is reached (what is shared counts as often as it is met; a slice's spare places count too). A statement '..UptoSaid' is the law's where the arguments, and the package variables that the reading takes, are together of bulk at most 1048576: NARROWER than '..Said'. Prove '..Said' where nothing that the law and all that it calls make is longer than what came in: it says more and counts as full. Else prove '..UptoSaid'. A law counts once. -/
mutual
def uptoBulk {H : Type} : DataW H → Nat
  | .lit (.string bytes) => bytes.length + 1
  | .lit _ => 1
  | .nil => 1
  | .ptr d => uptoBulk d + 1
  | .slice elems spare => uptoBulkAll elems + uptoBulkAll spare + 1
  | .agg parts => uptoBulkAll parts + 1
  | .iface _ d => uptoBulk d + 1
  | .map entries => uptoBulkEntries entries + 1
  | .held _ => 1
def uptoBulkAll {H : Type} : List (DataW H) → Nat
  | [] => 0
  | d :: r => uptoBulk d + uptoBulkAll r
def uptoBulkEntries {H : Type} : List (Lit × DataW H) → Nat
  | [] => 0
  | x :: r => uptoBulkEntry x + uptoBulkEntries r
def uptoBulkEntry {H : Type} : Lit × DataW H → Nat
  | (.string bytes, d) => bytes.length + uptoBulk d + 1
  | (_, d) => uptoBulk d + 1
 end
def uptoSmall : (H : Type) → List (DataW H) → Bool := fun _ ds => decide (uptoBulkAll ds ≤ 1048576)
def OpenSpec.upto (s : _root_.Go.ChangeSpec) : _root_.Go.OpenSpec := { _root_.Go.OpenSpec.ofChange s with cond := some uptoSmall }

/-- 'delayslotlaw19.CompileRuns', WHERE WHAT IT READS IS OF BULK AT MOST 1048576: true; the input reads as it did. -/
def compileRunsUptoRow : OpenClaim := { program := "yteddjcpaeoceeaagreatdoor", sum := "0285c7bf561e48747a1f5ad9ce83423e8d6de4f5ae719fb765b0cadeb71f21e8", func := "delayslot/delayslotlaw19.CompileRuns", spec := "compileRuns", inPlace := ["internal/bytealg.IndexByteString"], unfollowed := true, recurses := true, named := ["strings.asciiSpace", "unicode.White_Space"], apart := false, laid := [("unicode.White_Space", laid_unicode_White_Space), ("strings.asciiSpace", laid_strings_asciiSpace)], narrowed := true }
def CompileRunsUptoSaid : Prop := compileRunsUptoRow.holds Tryz.pinned (OpenSpec.upto compileRunsSpec)

/-- 'delayslotlaw19.CompileSums', WHERE WHAT IT READS IS OF BULK AT MOST 1048576: true; the input reads as it did. -/
def compileSumsUptoRow : OpenClaim := { program := "yteddjcpaeoceeaagreatdoor", sum := "0285c7bf561e48747a1f5ad9ce83423e8d6de4f5ae719fb765b0cadeb71f21e8", func := "delayslot/delayslotlaw19.CompileSums", spec := "compileSums", inPlace := ["internal/bytealg.IndexByteString"], unfollowed := true, recurses := true, named := ["strings.asciiSpace", "unicode.White_Space"], apart := false, laid := [("unicode.White_Space", laid_unicode_White_Space), ("strings.asciiSpace", laid_strings_asciiSpace)], narrowed := true }
def CompileSumsUptoSaid : Prop := compileSumsUptoRow.holds Tryz.pinned (OpenSpec.upto compileSumsSpec)

/-- 'delayslotlaw19.CompileOps', WHERE WHAT IT READS IS OF BULK AT MOST 1048576: true; the input reads as it did. -/
def compileOpsUptoRow : OpenClaim := { program := "yteddjcpaeoceeaagreatdoor", sum := "0285c7bf561e48747a1f5ad9ce83423e8d6de4f5ae719fb765b0cadeb71f21e8", func := "delayslot/delayslotlaw19.CompileOps", spec := "compileOps", inPlace := ["internal/bytealg.IndexByteString"], unfollowed := true, recurses := true, named := ["strings.asciiSpace", "unicode.White_Space"], apart := false, laid := [("unicode.White_Space", laid_unicode_White_Space), ("strings.asciiSpace", laid_strings_asciiSpace)], narrowed := true }
def CompileOpsUptoSaid : Prop := compileOpsUptoRow.holds Tryz.pinned (OpenSpec.upto compileOpsSpec)

/-- 'delayslotlaw19.CompileDivs', WHERE WHAT IT READS IS OF BULK AT MOST 1048576: true; the input reads as it did. -/
def compileDivsUptoRow : OpenClaim := { program := "yteddjcpaeoceeaagreatdoor", sum := "0285c7bf561e48747a1f5ad9ce83423e8d6de4f5ae719fb765b0cadeb71f21e8", func := "delayslot/delayslotlaw19.CompileDivs", spec := "compileDivs", inPlace := ["internal/bytealg.IndexByteString"], unfollowed := true, recurses := true, named := ["strings.asciiSpace", "unicode.White_Space"], apart := false, laid := [("unicode.White_Space", laid_unicode_White_Space), ("strings.asciiSpace", laid_strings_asciiSpace)], narrowed := true }
def CompileDivsUptoSaid : Prop := compileDivsUptoRow.holds Tryz.pinned (OpenSpec.upto compileDivsSpec)

/-- 'delayslotlaw19.CompileLists', WHERE WHAT IT READS IS OF BULK AT MOST 1048576: true; the input reads as it did. -/
def compileListsUptoRow : OpenClaim := { program := "yteddjcpaeoceeaagreatdoor", sum := "0285c7bf561e48747a1f5ad9ce83423e8d6de4f5ae719fb765b0cadeb71f21e8", func := "delayslot/delayslotlaw19.CompileLists", spec := "compileLists", inPlace := ["internal/bytealg.IndexByteString"], unfollowed := true, recurses := true, named := ["strings.asciiSpace", "unicode.White_Space"], apart := false, laid := [("unicode.White_Space", laid_unicode_White_Space), ("strings.asciiSpace", laid_strings_asciiSpace)], narrowed := true }
def CompileListsUptoSaid : Prop := compileListsUptoRow.holds Tryz.pinned (OpenSpec.upto compileListsSpec)

/-- 'delayslotlaw19.CompileCalls', WHERE WHAT IT READS IS OF BULK AT MOST 1048576: true; the input reads as it did. -/
def compileCallsUptoRow : OpenClaim := { program := "yteddjcpaeoceeaagreatdoor", sum := "0285c7bf561e48747a1f5ad9ce83423e8d6de4f5ae719fb765b0cadeb71f21e8", func := "delayslot/delayslotlaw19.CompileCalls", spec := "compileCalls", inPlace := ["internal/bytealg.IndexByteString"], unfollowed := true, recurses := true, named := ["strings.asciiSpace", "unicode.White_Space"], apart := false, laid := [("unicode.White_Space", laid_unicode_White_Space), ("strings.asciiSpace", laid_strings_asciiSpace)], narrowed := true }
def CompileCallsUptoSaid : Prop := compileCallsUptoRow.holds Tryz.pinned (OpenSpec.upto compileCallsSpec)

/-- 'delayslotlaw19.CompileEcho', WHERE WHAT IT READS IS OF BULK AT MOST 1048576: true; the input reads as it did. -/
def compileEchoUptoRow : OpenClaim := { program := "yteddjcpaeoceeaagreatdoor", sum := "0285c7bf561e48747a1f5ad9ce83423e8d6de4f5ae719fb765b0cadeb71f21e8", func := "delayslot/delayslotlaw19.CompileEcho", spec := "compileEcho", inPlace := ["internal/bytealg.IndexByteString"], unfollowed := true, recurses := true, named := ["strings.asciiSpace", "unicode.White_Space"], apart := false, laid := [("unicode.White_Space", laid_unicode_White_Space), ("strings.asciiSpace", laid_strings_asciiSpace)], narrowed := true }
def CompileEchoUptoSaid : Prop := compileEchoUptoRow.holds Tryz.pinned (OpenSpec.upto compileEchoSpec)

/-- 'delayslotlaw19.CompileIfs', WHERE WHAT IT READS IS OF BULK AT MOST 1048576: true; the input reads as it did. -/
def compileIfsUptoRow : OpenClaim := { program := "yteddjcpaeoceeaagreatdoor", sum := "0285c7bf561e48747a1f5ad9ce83423e8d6de4f5ae719fb765b0cadeb71f21e8", func := "delayslot/delayslotlaw19.CompileIfs", spec := "compileIfs", inPlace := ["internal/bytealg.IndexByteString"], unfollowed := true, recurses := true, named := ["strings.asciiSpace", "unicode.White_Space"], apart := false, laid := [("unicode.White_Space", laid_unicode_White_Space), ("strings.asciiSpace", laid_strings_asciiSpace)], narrowed := true }
def CompileIfsUptoSaid : Prop := compileIfsUptoRow.holds Tryz.pinned (OpenSpec.upto compileIfsSpec)

/-- 'delayslotlaw19.CompileOwn', WHERE WHAT IT READS IS OF BULK AT MOST 1048576: true; the input reads as it did. -/
def compileOwnUptoRow : OpenClaim := { program := "yteddjcpaeoceeaagreatdoor", sum := "0285c7bf561e48747a1f5ad9ce83423e8d6de4f5ae719fb765b0cadeb71f21e8", func := "delayslot/delayslotlaw19.CompileOwn", spec := "compileOwn", inPlace := ["internal/bytealg.IndexByteString"], unfollowed := true, recurses := true, named := ["strings.asciiSpace", "unicode.White_Space"], apart := false, laid := [("unicode.White_Space", laid_unicode_White_Space), ("strings.asciiSpace", laid_strings_asciiSpace)], narrowed := true }
def CompileOwnUptoSaid : Prop := compileOwnUptoRow.holds Tryz.pinned (OpenSpec.upto compileOwnSpec)

end Rows
end Go.Proofs.YteddjcpaeoceeaaGreatDoor

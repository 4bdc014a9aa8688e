/-
  NARROWER THAN 'FOR EVERY INPUT', by the rows' own cells (each row's printed sentence says how): BuildTells: laid · BuildInput: laid · BuildMeans: laid · BuildRuns: laid · BuildBoth: laid · BuildSlow: laid · BuildEcho: laid · BuildModules: laid.
  DERIVED. THE GIVEN ROWS OF THIS SEAT. 8 by the template 'for every input the law returns true; each argument reads behind the call as it read before'; 0 by the template 'total and deterministic' (their statements: YtkolmklfgbimoaaGreatDoorTotals.lean).
  GIVEN WITH THE SEED: the statements are not yours to turn. If you find one false, say at which input.
  Laid BY PROGRAM, IN A SANDBOX (cutbox-rows.mjs): the forced cells as the released guide's own fill.sh prints them over the translation 082743301448a13c… (all of the seat's roots in one cut). By AI agents, Wed Nov 11 2026. No macro, syntax, notation, axiom, sorry.
-/
import Derived.Test.YtkolmklfgbimoaaGreatDoorChecked
import GoSem.Claim
import GoSem.ClaimJoined
import GoSem.ClaimMapViews
import Derived.JoinedTies
import Derived.KernelRfl
namespace Go.Proofs.YtkolmklfgbimoaaGreatDoor
/- THE CELL 'sum', in the pinned program and in every row, IS THE sha256 OF THE DUMP (.gsa) THAT YtkolmklfgbimoaaGreatDoorProg.lean LOADS. Nothing in Lean hashes anything: it is a label: what it is worth is what the hold of that sum in a sandbox is worth. -/
noncomputable def Tryz.pinned : Pinned := { name := "ytkolmklfgbimoaagreatdoor", sum := "082743301448a13c0ba2a33c58a27b5276c6a0ea224cebe600d1feeba3abc808", checked := Tryz.checked }
namespace Rows
def none {H : Type} : Left H := { results := [], args := [] }

/- WHAT THE LISTED PACKAGE-LEVEL VARIABLES READ AS WHEN THE CALL BEGINS. Each datum BY PROGRAM (the guide's laid-datum.mjs) off the statement by which the dump's own 'gosem.cut.vars' lays the variable. In a bare row this is a premise. The card (YtkolmklfgbimoaaGreatDoorCards.lean) ties it to the program's text. -/
def laid_unicode_White_Space {H : Type} : DataW H := .ptr (.agg [.slice [.agg [.lit (.int .u16 9), .lit (.int .u16 13), .lit (.int .u16 1)], .agg [.lit (.int .u16 32), .lit (.int .u16 133), .lit (.int .u16 101)], .agg [.lit (.int .u16 160), .lit (.int .u16 5760), .lit (.int .u16 5600)], .agg [.lit (.int .u16 8192), .lit (.int .u16 8202), .lit (.int .u16 1)], .agg [.lit (.int .u16 8232), .lit (.int .u16 8233), .lit (.int .u16 1)], .agg [.lit (.int .u16 8239), .lit (.int .u16 8287), .lit (.int .u16 48)], .agg [.lit (.int .u16 12288), .lit (.int .u16 12288), .lit (.int .u16 1)]] [], .nil, .lit (.int .i64 2)])
def laid_strings_asciiSpace {H : Type} : DataW H := .agg [.lit (.int .u8 0), .lit (.int .u8 0), .lit (.int .u8 0), .lit (.int .u8 0), .lit (.int .u8 0), .lit (.int .u8 0), .lit (.int .u8 0), .lit (.int .u8 0), .lit (.int .u8 0), .lit (.int .u8 1), .lit (.int .u8 1), .lit (.int .u8 1), .lit (.int .u8 1), .lit (.int .u8 1), .lit (.int .u8 0), .lit (.int .u8 0), .lit (.int .u8 0), .lit (.int .u8 0), .lit (.int .u8 0), .lit (.int .u8 0), .lit (.int .u8 0), .lit (.int .u8 0), .lit (.int .u8 0), .lit (.int .u8 0), .lit (.int .u8 0), .lit (.int .u8 0), .lit (.int .u8 0), .lit (.int .u8 0), .lit (.int .u8 0), .lit (.int .u8 0), .lit (.int .u8 0), .lit (.int .u8 0), .lit (.int .u8 1), .lit (.int .u8 0), .lit (.int .u8 0), .lit (.int .u8 0), .lit (.int .u8 0), .lit (.int .u8 0), .lit (.int .u8 0), .lit (.int .u8 0), .lit (.int .u8 0), .lit (.int .u8 0), .lit (.int .u8 0), .lit (.int .u8 0), .lit (.int .u8 0), .lit (.int .u8 0), .lit (.int .u8 0), .lit (.int .u8 0), .lit (.int .u8 0), .lit (.int .u8 0), .lit (.int .u8 0), .lit (.int .u8 0), .lit (.int .u8 0), .lit (.int .u8 0), .lit (.int .u8 0), .lit (.int .u8 0), .lit (.int .u8 0), .lit (.int .u8 0), .lit (.int .u8 0), .lit (.int .u8 0), .lit (.int .u8 0), .lit (.int .u8 0), .lit (.int .u8 0), .lit (.int .u8 0), .lit (.int .u8 0), .lit (.int .u8 0), .lit (.int .u8 0), .lit (.int .u8 0), .lit (.int .u8 0), .lit (.int .u8 0), .lit (.int .u8 0), .lit (.int .u8 0), .lit (.int .u8 0), .lit (.int .u8 0), .lit (.int .u8 0), .lit (.int .u8 0), .lit (.int .u8 0), .lit (.int .u8 0), .lit (.int .u8 0), .lit (.int .u8 0), .lit (.int .u8 0), .lit (.int .u8 0), .lit (.int .u8 0), .lit (.int .u8 0), .lit (.int .u8 0), .lit (.int .u8 0), .lit (.int .u8 0), .lit (.int .u8 0), .lit (.int .u8 0), .lit (.int .u8 0), .lit (.int .u8 0), .lit (.int .u8 0), .lit (.int .u8 0), .lit (.int .u8 0), .lit (.int .u8 0), .lit (.int .u8 0), .lit (.int .u8 0), .lit (.int .u8 0), .lit (.int .u8 0), .lit (.int .u8 0), .lit (.int .u8 0), .lit (.int .u8 0), .lit (.int .u8 0), .lit (.int .u8 0), .lit (.int .u8 0), .lit (.int .u8 0), .lit (.int .u8 0), .lit (.int .u8 0), .lit (.int .u8 0), .lit (.int .u8 0), .lit (.int .u8 0), .lit (.int .u8 0), .lit (.int .u8 0), .lit (.int .u8 0), .lit (.int .u8 0), .lit (.int .u8 0), .lit (.int .u8 0), .lit (.int .u8 0), .lit (.int .u8 0), .lit (.int .u8 0), .lit (.int .u8 0), .lit (.int .u8 0), .lit (.int .u8 0), .lit (.int .u8 0), .lit (.int .u8 0), .lit (.int .u8 0), .lit (.int .u8 0), .lit (.int .u8 0), .lit (.int .u8 0), .lit (.int .u8 0), .lit (.int .u8 0), .lit (.int .u8 0), .lit (.int .u8 0), .lit (.int .u8 0), .lit (.int .u8 0), .lit (.int .u8 0), .lit (.int .u8 0), .lit (.int .u8 0), .lit (.int .u8 0), .lit (.int .u8 0), .lit (.int .u8 0), .lit (.int .u8 0), .lit (.int .u8 0), .lit (.int .u8 0), .lit (.int .u8 0), .lit (.int .u8 0), .lit (.int .u8 0), .lit (.int .u8 0), .lit (.int .u8 0), .lit (.int .u8 0), .lit (.int .u8 0), .lit (.int .u8 0), .lit (.int .u8 0), .lit (.int .u8 0), .lit (.int .u8 0), .lit (.int .u8 0), .lit (.int .u8 0), .lit (.int .u8 0), .lit (.int .u8 0), .lit (.int .u8 0), .lit (.int .u8 0), .lit (.int .u8 0), .lit (.int .u8 0), .lit (.int .u8 0), .lit (.int .u8 0), .lit (.int .u8 0), .lit (.int .u8 0), .lit (.int .u8 0), .lit (.int .u8 0), .lit (.int .u8 0), .lit (.int .u8 0), .lit (.int .u8 0), .lit (.int .u8 0), .lit (.int .u8 0), .lit (.int .u8 0), .lit (.int .u8 0), .lit (.int .u8 0), .lit (.int .u8 0), .lit (.int .u8 0), .lit (.int .u8 0), .lit (.int .u8 0), .lit (.int .u8 0), .lit (.int .u8 0), .lit (.int .u8 0), .lit (.int .u8 0), .lit (.int .u8 0), .lit (.int .u8 0), .lit (.int .u8 0), .lit (.int .u8 0), .lit (.int .u8 0), .lit (.int .u8 0), .lit (.int .u8 0), .lit (.int .u8 0), .lit (.int .u8 0), .lit (.int .u8 0), .lit (.int .u8 0), .lit (.int .u8 0), .lit (.int .u8 0), .lit (.int .u8 0), .lit (.int .u8 0), .lit (.int .u8 0), .lit (.int .u8 0), .lit (.int .u8 0), .lit (.int .u8 0), .lit (.int .u8 0), .lit (.int .u8 0), .lit (.int .u8 0), .lit (.int .u8 0), .lit (.int .u8 0), .lit (.int .u8 0), .lit (.int .u8 0), .lit (.int .u8 0), .lit (.int .u8 0), .lit (.int .u8 0), .lit (.int .u8 0), .lit (.int .u8 0), .lit (.int .u8 0), .lit (.int .u8 0), .lit (.int .u8 0), .lit (.int .u8 0), .lit (.int .u8 0), .lit (.int .u8 0), .lit (.int .u8 0), .lit (.int .u8 0), .lit (.int .u8 0), .lit (.int .u8 0), .lit (.int .u8 0), .lit (.int .u8 0), .lit (.int .u8 0), .lit (.int .u8 0), .lit (.int .u8 0), .lit (.int .u8 0), .lit (.int .u8 0), .lit (.int .u8 0), .lit (.int .u8 0), .lit (.int .u8 0), .lit (.int .u8 0), .lit (.int .u8 0), .lit (.int .u8 0), .lit (.int .u8 0), .lit (.int .u8 0), .lit (.int .u8 0), .lit (.int .u8 0), .lit (.int .u8 0), .lit (.int .u8 0), .lit (.int .u8 0), .lit (.int .u8 0), .lit (.int .u8 0), .lit (.int .u8 0), .lit (.int .u8 0), .lit (.int .u8 0), .lit (.int .u8 0), .lit (.int .u8 0), .lit (.int .u8 0), .lit (.int .u8 0), .lit (.int .u8 0)]

/-- 'delayslotlaw20.BuildTells': WHATEVER THE INPUT: true; the input reads as it did. -/
def buildTellsSpec : ChangeSpec := { name := "buildTells", fn := fun _ => fun
  | [d1, d2] => { results := [.lit (.bool true)], args := [d1, d2] }
  | _ => none }
def buildTellsRow : OpenClaim := { program := "ytkolmklfgbimoaagreatdoor", sum := "082743301448a13c0ba2a33c58a27b5276c6a0ea224cebe600d1feeba3abc808", func := "delayslot/delayslotlaw20.BuildTells", spec := "buildTells", inPlace := ["internal/bytealg.IndexByteString"], unfollowed := true, recurses := true, named := ["strings.asciiSpace", "unicode.White_Space"], apart := false, laid := [("unicode.White_Space", laid_unicode_White_Space), ("strings.asciiSpace", laid_strings_asciiSpace)] }
def BuildTellsSaid : Prop := buildTellsRow.holds Tryz.pinned (OpenSpec.ofChange buildTellsSpec)

/-- ITS FALSE NEIGHBOUR: 'it returns false'. Refute it at one input. -/
def buildTellsWrong : ChangeSpec := { name := "buildTells", fn := fun _ => fun
  | [d1, d2] => { results := [.lit (.bool false)], args := [d1, d2] }
  | _ => none }
def BuildTellsWrongFalsely : Prop := buildTellsRow.holds Tryz.pinned (OpenSpec.ofChange buildTellsWrong)

/-- 'delayslotlaw20.BuildInput': WHATEVER THE INPUT: true; the input reads as it did. -/
def buildInputSpec : ChangeSpec := { name := "buildInput", fn := fun _ => fun
  | [d1, d2, d3, d4, d5] => { results := [.lit (.bool true)], args := [d1, d2, d3, d4, d5] }
  | _ => none }
def buildInputRow : OpenClaim := { program := "ytkolmklfgbimoaagreatdoor", sum := "082743301448a13c0ba2a33c58a27b5276c6a0ea224cebe600d1feeba3abc808", func := "delayslot/delayslotlaw20.BuildInput", spec := "buildInput", inPlace := ["internal/bytealg.IndexByteString"], unfollowed := true, recurses := true, named := ["strings.asciiSpace", "unicode.White_Space"], apart := false, laid := [("unicode.White_Space", laid_unicode_White_Space), ("strings.asciiSpace", laid_strings_asciiSpace)] }
def BuildInputSaid : Prop := buildInputRow.holds Tryz.pinned (OpenSpec.ofChange buildInputSpec)

/-- ITS FALSE NEIGHBOUR: 'it returns false'. Refute it at one input. -/
def buildInputWrong : ChangeSpec := { name := "buildInput", fn := fun _ => fun
  | [d1, d2, d3, d4, d5] => { results := [.lit (.bool false)], args := [d1, d2, d3, d4, d5] }
  | _ => none }
def BuildInputWrongFalsely : Prop := buildInputRow.holds Tryz.pinned (OpenSpec.ofChange buildInputWrong)

/-- 'delayslotlaw20.BuildMeans': WHATEVER THE INPUT: true; the input reads as it did. -/
def buildMeansSpec : ChangeSpec := { name := "buildMeans", fn := fun _ => fun
  | [d1, d2, d3] => { results := [.lit (.bool true)], args := [d1, d2, d3] }
  | _ => none }
def buildMeansRow : OpenClaim := { program := "ytkolmklfgbimoaagreatdoor", sum := "082743301448a13c0ba2a33c58a27b5276c6a0ea224cebe600d1feeba3abc808", func := "delayslot/delayslotlaw20.BuildMeans", spec := "buildMeans", inPlace := ["internal/bytealg.IndexByteString"], unfollowed := true, recurses := true, named := ["strings.asciiSpace", "unicode.White_Space"], apart := false, laid := [("unicode.White_Space", laid_unicode_White_Space), ("strings.asciiSpace", laid_strings_asciiSpace)] }
def BuildMeansSaid : Prop := buildMeansRow.holds Tryz.pinned (OpenSpec.ofChange buildMeansSpec)

/-- ITS FALSE NEIGHBOUR: 'it returns false'. Refute it at one input. -/
def buildMeansWrong : ChangeSpec := { name := "buildMeans", fn := fun _ => fun
  | [d1, d2, d3] => { results := [.lit (.bool false)], args := [d1, d2, d3] }
  | _ => none }
def BuildMeansWrongFalsely : Prop := buildMeansRow.holds Tryz.pinned (OpenSpec.ofChange buildMeansWrong)

/-- 'delayslotlaw20.BuildRuns': WHATEVER THE INPUT: true; the input reads as it did. -/
def buildRunsSpec : ChangeSpec := { name := "buildRuns", fn := fun _ => fun
  | [d1, d2, d3] => { results := [.lit (.bool true)], args := [d1, d2, d3] }
  | _ => none }
def buildRunsRow : OpenClaim := { program := "ytkolmklfgbimoaagreatdoor", sum := "082743301448a13c0ba2a33c58a27b5276c6a0ea224cebe600d1feeba3abc808", func := "delayslot/delayslotlaw20.BuildRuns", spec := "buildRuns", inPlace := ["internal/bytealg.IndexByteString"], unfollowed := true, recurses := true, named := ["strings.asciiSpace", "unicode.White_Space"], apart := false, laid := [("unicode.White_Space", laid_unicode_White_Space), ("strings.asciiSpace", laid_strings_asciiSpace)] }
def BuildRunsSaid : Prop := buildRunsRow.holds Tryz.pinned (OpenSpec.ofChange buildRunsSpec)

/-- ITS FALSE NEIGHBOUR: 'it returns false'. Refute it at one input. -/
def buildRunsWrong : ChangeSpec := { name := "buildRuns", fn := fun _ => fun
  | [d1, d2, d3] => { results := [.lit (.bool false)], args := [d1, d2, d3] }
  | _ => none }
def BuildRunsWrongFalsely : Prop := buildRunsRow.holds Tryz.pinned (OpenSpec.ofChange buildRunsWrong)

/-- 'delayslotlaw20.BuildBoth': WHATEVER THE INPUT: true; the input reads as it did. -/
def buildBothSpec : ChangeSpec := { name := "buildBoth", fn := fun _ => fun
  | [d1, d2, d3] => { results := [.lit (.bool true)], args := [d1, d2, d3] }
  | _ => none }
def buildBothRow : OpenClaim := { program := "ytkolmklfgbimoaagreatdoor", sum := "082743301448a13c0ba2a33c58a27b5276c6a0ea224cebe600d1feeba3abc808", func := "delayslot/delayslotlaw20.BuildBoth", spec := "buildBoth", inPlace := ["internal/bytealg.IndexByteString"], unfollowed := true, recurses := true, named := ["strings.asciiSpace", "unicode.White_Space"], apart := false, laid := [("unicode.White_Space", laid_unicode_White_Space), ("strings.asciiSpace", laid_strings_asciiSpace)] }
def BuildBothSaid : Prop := buildBothRow.holds Tryz.pinned (OpenSpec.ofChange buildBothSpec)

/-- ITS FALSE NEIGHBOUR: 'it returns false'. Refute it at one input. -/
def buildBothWrong : ChangeSpec := { name := "buildBoth", fn := fun _ => fun
  | [d1, d2, d3] => { results := [.lit (.bool false)], args := [d1, d2, d3] }
  | _ => none }
def BuildBothWrongFalsely : Prop := buildBothRow.holds Tryz.pinned (OpenSpec.ofChange buildBothWrong)

/-- 'delayslotlaw20.BuildSlow': WHATEVER THE INPUT: true; the input reads as it did. -/
def buildSlowSpec : ChangeSpec := { name := "buildSlow", fn := fun _ => fun
  | [d1, d2, d3] => { results := [.lit (.bool true)], args := [d1, d2, d3] }
  | _ => none }
def buildSlowRow : OpenClaim := { program := "ytkolmklfgbimoaagreatdoor", sum := "082743301448a13c0ba2a33c58a27b5276c6a0ea224cebe600d1feeba3abc808", func := "delayslot/delayslotlaw20.BuildSlow", spec := "buildSlow", inPlace := ["internal/bytealg.IndexByteString"], unfollowed := true, recurses := true, named := ["strings.asciiSpace", "unicode.White_Space"], apart := false, laid := [("unicode.White_Space", laid_unicode_White_Space), ("strings.asciiSpace", laid_strings_asciiSpace)] }
def BuildSlowSaid : Prop := buildSlowRow.holds Tryz.pinned (OpenSpec.ofChange buildSlowSpec)

/-- ITS FALSE NEIGHBOUR: 'it returns false'. Refute it at one input. -/
def buildSlowWrong : ChangeSpec := { name := "buildSlow", fn := fun _ => fun
  | [d1, d2, d3] => { results := [.lit (.bool false)], args := [d1, d2, d3] }
  | _ => none }
def BuildSlowWrongFalsely : Prop := buildSlowRow.holds Tryz.pinned (OpenSpec.ofChange buildSlowWrong)

/-- 'delayslotlaw20.BuildEcho': WHATEVER THE INPUT: true; the input reads as it did. -/
def buildEchoSpec : ChangeSpec := { name := "buildEcho", fn := fun _ => fun
  | [d] => { results := [.lit (.bool true)], args := [d] }
  | _ => none }
def buildEchoRow : OpenClaim := { program := "ytkolmklfgbimoaagreatdoor", sum := "082743301448a13c0ba2a33c58a27b5276c6a0ea224cebe600d1feeba3abc808", func := "delayslot/delayslotlaw20.BuildEcho", spec := "buildEcho", inPlace := ["internal/bytealg.IndexByteString"], unfollowed := true, recurses := true, named := ["strings.asciiSpace", "unicode.White_Space"], apart := false, laid := [("unicode.White_Space", laid_unicode_White_Space), ("strings.asciiSpace", laid_strings_asciiSpace)] }
def BuildEchoSaid : Prop := buildEchoRow.holds Tryz.pinned (OpenSpec.ofChange buildEchoSpec)

/-- ITS FALSE NEIGHBOUR: 'it returns false'. Refute it at one input. -/
def buildEchoWrong : ChangeSpec := { name := "buildEcho", fn := fun _ => fun
  | [d] => { results := [.lit (.bool false)], args := [d] }
  | _ => none }
def BuildEchoWrongFalsely : Prop := buildEchoRow.holds Tryz.pinned (OpenSpec.ofChange buildEchoWrong)

/-- 'delayslotlaw20.BuildModules': WHATEVER THE INPUT: true; the input reads as it did. -/
def buildModulesSpec : ChangeSpec := { name := "buildModules", fn := fun _ => fun
  | [d] => { results := [.lit (.bool true)], args := [d] }
  | _ => none }
def buildModulesRow : OpenClaim := { program := "ytkolmklfgbimoaagreatdoor", sum := "082743301448a13c0ba2a33c58a27b5276c6a0ea224cebe600d1feeba3abc808", func := "delayslot/delayslotlaw20.BuildModules", spec := "buildModules", inPlace := ["internal/bytealg.IndexByteString"], unfollowed := true, recurses := true, named := ["strings.asciiSpace", "unicode.White_Space"], apart := false, laid := [("unicode.White_Space", laid_unicode_White_Space), ("strings.asciiSpace", laid_strings_asciiSpace)] }
def BuildModulesSaid : Prop := buildModulesRow.holds Tryz.pinned (OpenSpec.ofChange buildModulesSpec)

/-- ITS FALSE NEIGHBOUR: 'it returns false'. Refute it at one input. -/
def buildModulesWrong : ChangeSpec := { name := "buildModules", fn := fun _ => fun
  | [d] => { results := [.lit (.bool false)], args := [d] }
  | _ => none }
def BuildModulesWrongFalsely : Prop := buildModulesRow.holds Tryz.pinned (OpenSpec.ofChange buildModulesWrong)

/- THE SECOND FORM. 'bulk': how many values and letters a reading holds, each counted each time it is reached (what is shared counts as often as it is met; a slice's spare places count too). A statement '..UptoSaid' is the law's where the arguments, and the package variables that the reading takes, are together of bulk at most 1048576: NARROWER than '..Said'. Prove '..Said' where nothing that the law and all that it calls make is longer than what came in: it says more and counts as full. Else prove '..UptoSaid'. A law counts once. -/
mutual
def uptoBulk {H : Type} : DataW H → Nat
  | .lit (.string bytes) => bytes.length + 1
  | .lit _ => 1
  | .nil => 1
  | .ptr d => uptoBulk d + 1
  | .slice elems spare => uptoBulkAll elems + uptoBulkAll spare + 1
  | .agg parts => uptoBulkAll parts + 1
  | .iface _ d => uptoBulk d + 1
  | .map entries => uptoBulkEntries entries + 1
  | .held _ => 1
def uptoBulkAll {H : Type} : List (DataW H) → Nat
  | [] => 0
  | d :: r => uptoBulk d + uptoBulkAll r
def uptoBulkEntries {H : Type} : List (Lit × DataW H) → Nat
  | [] => 0
  | x :: r => uptoBulkEntry x + uptoBulkEntries r
def uptoBulkEntry {H : Type} : Lit × DataW H → Nat
  | (.string bytes, d) => bytes.length + uptoBulk d + 1
  | (_, d) => uptoBulk d + 1
 end
def uptoSmall : (H : Type) → List (DataW H) → Bool := fun _ ds => decide (uptoBulkAll ds ≤ 1048576)
def OpenSpec.upto (s : _root_.Go.ChangeSpec) : _root_.Go.OpenSpec := { _root_.Go.OpenSpec.ofChange s with cond := some uptoSmall }

/-- 'delayslotlaw20.BuildTells', WHERE WHAT IT READS IS OF BULK AT MOST 1048576: true; the input reads as it did. -/
def buildTellsUptoRow : OpenClaim := { program := "ytkolmklfgbimoaagreatdoor", sum := "082743301448a13c0ba2a33c58a27b5276c6a0ea224cebe600d1feeba3abc808", func := "delayslot/delayslotlaw20.BuildTells", spec := "buildTells", inPlace := ["internal/bytealg.IndexByteString"], unfollowed := true, recurses := true, named := ["strings.asciiSpace", "unicode.White_Space"], apart := false, laid := [("unicode.White_Space", laid_unicode_White_Space), ("strings.asciiSpace", laid_strings_asciiSpace)], narrowed := true }
def BuildTellsUptoSaid : Prop := buildTellsUptoRow.holds Tryz.pinned (OpenSpec.upto buildTellsSpec)

/-- 'delayslotlaw20.BuildInput', WHERE WHAT IT READS IS OF BULK AT MOST 1048576: true; the input reads as it did. -/
def buildInputUptoRow : OpenClaim := { program := "ytkolmklfgbimoaagreatdoor", sum := "082743301448a13c0ba2a33c58a27b5276c6a0ea224cebe600d1feeba3abc808", func := "delayslot/delayslotlaw20.BuildInput", spec := "buildInput", inPlace := ["internal/bytealg.IndexByteString"], unfollowed := true, recurses := true, named := ["strings.asciiSpace", "unicode.White_Space"], apart := false, laid := [("unicode.White_Space", laid_unicode_White_Space), ("strings.asciiSpace", laid_strings_asciiSpace)], narrowed := true }
def BuildInputUptoSaid : Prop := buildInputUptoRow.holds Tryz.pinned (OpenSpec.upto buildInputSpec)

/-- 'delayslotlaw20.BuildMeans', WHERE WHAT IT READS IS OF BULK AT MOST 1048576: true; the input reads as it did. -/
def buildMeansUptoRow : OpenClaim := { program := "ytkolmklfgbimoaagreatdoor", sum := "082743301448a13c0ba2a33c58a27b5276c6a0ea224cebe600d1feeba3abc808", func := "delayslot/delayslotlaw20.BuildMeans", spec := "buildMeans", inPlace := ["internal/bytealg.IndexByteString"], unfollowed := true, recurses := true, named := ["strings.asciiSpace", "unicode.White_Space"], apart := false, laid := [("unicode.White_Space", laid_unicode_White_Space), ("strings.asciiSpace", laid_strings_asciiSpace)], narrowed := true }
def BuildMeansUptoSaid : Prop := buildMeansUptoRow.holds Tryz.pinned (OpenSpec.upto buildMeansSpec)

/-- 'delayslotlaw20.BuildRuns', WHERE WHAT IT READS IS OF BULK AT MOST 1048576: true; the input reads as it did. -/
def buildRunsUptoRow : OpenClaim := { program := "ytkolmklfgbimoaagreatdoor", sum := "082743301448a13c0ba2a33c58a27b5276c6a0ea224cebe600d1feeba3abc808", func := "delayslot/delayslotlaw20.BuildRuns", spec := "buildRuns", inPlace := ["internal/bytealg.IndexByteString"], unfollowed := true, recurses := true, named := ["strings.asciiSpace", "unicode.White_Space"], apart := false, laid := [("unicode.White_Space", laid_unicode_White_Space), ("strings.asciiSpace", laid_strings_asciiSpace)], narrowed := true }
def BuildRunsUptoSaid : Prop := buildRunsUptoRow.holds Tryz.pinned (OpenSpec.upto buildRunsSpec)

/-- 'delayslotlaw20.BuildBoth', WHERE WHAT IT READS IS OF BULK AT MOST 1048576: true; the input reads as it did. -/
def buildBothUptoRow : OpenClaim := { program := "ytkolmklfgbimoaagreatdoor", sum := "082743301448a13c0ba2a33c58a27b5276c6a0ea224cebe600d1feeba3abc808", func := "delayslot/delayslotlaw20.BuildBoth", spec := "buildBoth", inPlace := ["internal/bytealg.IndexByteString"], unfollowed := true, recurses := true, named := ["strings.asciiSpace", "unicode.White_Space"], apart := false, laid := [("unicode.White_Space", laid_unicode_White_Space), ("strings.asciiSpace", laid_strings_asciiSpace)], narrowed := true }
def BuildBothUptoSaid : Prop := buildBothUptoRow.holds Tryz.pinned (OpenSpec.upto buildBothSpec)

/-- 'delayslotlaw20.BuildSlow', WHERE WHAT IT READS IS OF BULK AT MOST 1048576: true; the input reads as it did. -/
def buildSlowUptoRow : OpenClaim := { program := "ytkolmklfgbimoaagreatdoor", sum := "082743301448a13c0ba2a33c58a27b5276c6a0ea224cebe600d1feeba3abc808", func := "delayslot/delayslotlaw20.BuildSlow", spec := "buildSlow", inPlace := ["internal/bytealg.IndexByteString"], unfollowed := true, recurses := true, named := ["strings.asciiSpace", "unicode.White_Space"], apart := false, laid := [("unicode.White_Space", laid_unicode_White_Space), ("strings.asciiSpace", laid_strings_asciiSpace)], narrowed := true }
def BuildSlowUptoSaid : Prop := buildSlowUptoRow.holds Tryz.pinned (OpenSpec.upto buildSlowSpec)

/-- 'delayslotlaw20.BuildEcho', WHERE WHAT IT READS IS OF BULK AT MOST 1048576: true; the input reads as it did. -/
def buildEchoUptoRow : OpenClaim := { program := "ytkolmklfgbimoaagreatdoor", sum := "082743301448a13c0ba2a33c58a27b5276c6a0ea224cebe600d1feeba3abc808", func := "delayslot/delayslotlaw20.BuildEcho", spec := "buildEcho", inPlace := ["internal/bytealg.IndexByteString"], unfollowed := true, recurses := true, named := ["strings.asciiSpace", "unicode.White_Space"], apart := false, laid := [("unicode.White_Space", laid_unicode_White_Space), ("strings.asciiSpace", laid_strings_asciiSpace)], narrowed := true }
def BuildEchoUptoSaid : Prop := buildEchoUptoRow.holds Tryz.pinned (OpenSpec.upto buildEchoSpec)

/-- 'delayslotlaw20.BuildModules', WHERE WHAT IT READS IS OF BULK AT MOST 1048576: true; the input reads as it did. -/
def buildModulesUptoRow : OpenClaim := { program := "ytkolmklfgbimoaagreatdoor", sum := "082743301448a13c0ba2a33c58a27b5276c6a0ea224cebe600d1feeba3abc808", func := "delayslot/delayslotlaw20.BuildModules", spec := "buildModules", inPlace := ["internal/bytealg.IndexByteString"], unfollowed := true, recurses := true, named := ["strings.asciiSpace", "unicode.White_Space"], apart := false, laid := [("unicode.White_Space", laid_unicode_White_Space), ("strings.asciiSpace", laid_strings_asciiSpace)], narrowed := true }
def BuildModulesUptoSaid : Prop := buildModulesUptoRow.holds Tryz.pinned (OpenSpec.upto buildModulesSpec)

end Rows
end Go.Proofs.YtkolmklfgbimoaaGreatDoor

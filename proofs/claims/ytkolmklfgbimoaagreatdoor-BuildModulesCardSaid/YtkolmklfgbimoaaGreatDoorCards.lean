/-
  DERIVED. GIVEN WITH THE SEED: THE CARDS: each row of YtkolmklfgbimoaaGreatDoorRows.lean that lists a variable, with what it lists TIED to the program's text (the seventh form; the later family's looks); each row that meets fmt, with fmt's text TOLD by the authors' own Lean function (tested against real Go, not proved from fmt's source: count such statements apart). THE CARD IS WHAT COUNTS. Prove the row's statement (the work); the ties are given (YtkolmklfgbimoaaGreatDoorTie.lean); close each card by the builder's one call (the guide's Derived/Test/ToyasCard.lean, 'card_holds'). Laid BY PROGRAM, IN A SANDBOX (cutbox-door.mjs). By AI agents, Wed Nov 11 2026. No macro, syntax, notation, axiom, sorry.
-/
import Derived.Test.YtkolmklfgbimoaaGreatDoorRows
import GoSem.ClaimSeven
namespace Go.Proofs.YtkolmklfgbimoaaGreatDoor
namespace Rows

/-- THE TIED CARD OF 'delayslotlaw20.BuildTells'. -/
def buildTellsCard : Claim7 := { stood := { row := buildTellsRow, standIns := [], harness := (true, "89ac176c5073a06bfb41e9a9c1b46b7c2722c58b72c43670d0ed7b5182b8db16"), looks := false }, kinds := [], alts := [], laidByText := true, laidKinds := [.listed, .data], laidTests := true, laidLooks := .later }
def BuildTellsCardSaid : Prop := Claim7.holds Tryz.pinned (.plain (OpenSpec.ofChange buildTellsSpec)) buildTellsCard

/-- THE TIED CARD OF 'delayslotlaw20.BuildInput'. -/
def buildInputCard : Claim7 := { stood := { row := buildInputRow, standIns := [], harness := (true, "89ac176c5073a06bfb41e9a9c1b46b7c2722c58b72c43670d0ed7b5182b8db16"), looks := false }, kinds := [], alts := [], laidByText := true, laidKinds := [.listed, .data], laidTests := true, laidLooks := .later }
def BuildInputCardSaid : Prop := Claim7.holds Tryz.pinned (.plain (OpenSpec.ofChange buildInputSpec)) buildInputCard

/-- THE TIED CARD OF 'delayslotlaw20.BuildMeans'. -/
def buildMeansCard : Claim7 := { stood := { row := buildMeansRow, standIns := [], harness := (true, "89ac176c5073a06bfb41e9a9c1b46b7c2722c58b72c43670d0ed7b5182b8db16"), looks := false }, kinds := [], alts := [], laidByText := true, laidKinds := [.listed, .data], laidTests := true, laidLooks := .later }
def BuildMeansCardSaid : Prop := Claim7.holds Tryz.pinned (.plain (OpenSpec.ofChange buildMeansSpec)) buildMeansCard

/-- THE TIED CARD OF 'delayslotlaw20.BuildRuns'. -/
def buildRunsCard : Claim7 := { stood := { row := buildRunsRow, standIns := [], harness := (true, "89ac176c5073a06bfb41e9a9c1b46b7c2722c58b72c43670d0ed7b5182b8db16"), looks := false }, kinds := [], alts := [], laidByText := true, laidKinds := [.listed, .data], laidTests := true, laidLooks := .later }
def BuildRunsCardSaid : Prop := Claim7.holds Tryz.pinned (.plain (OpenSpec.ofChange buildRunsSpec)) buildRunsCard

/-- THE TIED CARD OF 'delayslotlaw20.BuildBoth'. -/
def buildBothCard : Claim7 := { stood := { row := buildBothRow, standIns := [], harness := (true, "89ac176c5073a06bfb41e9a9c1b46b7c2722c58b72c43670d0ed7b5182b8db16"), looks := false }, kinds := [], alts := [], laidByText := true, laidKinds := [.listed, .data], laidTests := true, laidLooks := .later }
def BuildBothCardSaid : Prop := Claim7.holds Tryz.pinned (.plain (OpenSpec.ofChange buildBothSpec)) buildBothCard

/-- THE TIED CARD OF 'delayslotlaw20.BuildSlow'. -/
def buildSlowCard : Claim7 := { stood := { row := buildSlowRow, standIns := [], harness := (true, "89ac176c5073a06bfb41e9a9c1b46b7c2722c58b72c43670d0ed7b5182b8db16"), looks := false }, kinds := [], alts := [], laidByText := true, laidKinds := [.listed, .data], laidTests := true, laidLooks := .later }
def BuildSlowCardSaid : Prop := Claim7.holds Tryz.pinned (.plain (OpenSpec.ofChange buildSlowSpec)) buildSlowCard

/-- THE TIED CARD OF 'delayslotlaw20.BuildEcho'. -/
def buildEchoCard : Claim7 := { stood := { row := buildEchoRow, standIns := [], harness := (true, "89ac176c5073a06bfb41e9a9c1b46b7c2722c58b72c43670d0ed7b5182b8db16"), looks := false }, kinds := [], alts := [], laidByText := true, laidKinds := [.listed, .data], laidTests := true, laidLooks := .later }
def BuildEchoCardSaid : Prop := Claim7.holds Tryz.pinned (.plain (OpenSpec.ofChange buildEchoSpec)) buildEchoCard

/-- THE TIED CARD OF 'delayslotlaw20.BuildModules'. -/
def buildModulesCard : Claim7 := { stood := { row := buildModulesRow, standIns := [], harness := (true, "89ac176c5073a06bfb41e9a9c1b46b7c2722c58b72c43670d0ed7b5182b8db16"), looks := false }, kinds := [], alts := [], laidByText := true, laidKinds := [.listed, .data], laidTests := true, laidLooks := .later }
def BuildModulesCardSaid : Prop := Claim7.holds Tryz.pinned (.plain (OpenSpec.ofChange buildModulesSpec)) buildModulesCard

/-- THE SECOND FORM's CARD OF 'delayslotlaw20.BuildTells'. -/
def buildTellsUptoCard : Claim7 := { stood := { row := buildTellsUptoRow, standIns := [], harness := (true, "89ac176c5073a06bfb41e9a9c1b46b7c2722c58b72c43670d0ed7b5182b8db16"), looks := false }, kinds := [], alts := [], laidByText := true, laidKinds := [.listed, .data], laidTests := true, laidLooks := .later }
def BuildTellsUptoCardSaid : Prop := Claim7.holds Tryz.pinned (.plain (OpenSpec.upto buildTellsSpec)) buildTellsUptoCard

/-- THE SECOND FORM's CARD OF 'delayslotlaw20.BuildInput'. -/
def buildInputUptoCard : Claim7 := { stood := { row := buildInputUptoRow, standIns := [], harness := (true, "89ac176c5073a06bfb41e9a9c1b46b7c2722c58b72c43670d0ed7b5182b8db16"), looks := false }, kinds := [], alts := [], laidByText := true, laidKinds := [.listed, .data], laidTests := true, laidLooks := .later }
def BuildInputUptoCardSaid : Prop := Claim7.holds Tryz.pinned (.plain (OpenSpec.upto buildInputSpec)) buildInputUptoCard

/-- THE SECOND FORM's CARD OF 'delayslotlaw20.BuildMeans'. -/
def buildMeansUptoCard : Claim7 := { stood := { row := buildMeansUptoRow, standIns := [], harness := (true, "89ac176c5073a06bfb41e9a9c1b46b7c2722c58b72c43670d0ed7b5182b8db16"), looks := false }, kinds := [], alts := [], laidByText := true, laidKinds := [.listed, .data], laidTests := true, laidLooks := .later }
def BuildMeansUptoCardSaid : Prop := Claim7.holds Tryz.pinned (.plain (OpenSpec.upto buildMeansSpec)) buildMeansUptoCard

/-- THE SECOND FORM's CARD OF 'delayslotlaw20.BuildRuns'. -/
def buildRunsUptoCard : Claim7 := { stood := { row := buildRunsUptoRow, standIns := [], harness := (true, "89ac176c5073a06bfb41e9a9c1b46b7c2722c58b72c43670d0ed7b5182b8db16"), looks := false }, kinds := [], alts := [], laidByText := true, laidKinds := [.listed, .data], laidTests := true, laidLooks := .later }
def BuildRunsUptoCardSaid : Prop := Claim7.holds Tryz.pinned (.plain (OpenSpec.upto buildRunsSpec)) buildRunsUptoCard

/-- THE SECOND FORM's CARD OF 'delayslotlaw20.BuildBoth'. -/
def buildBothUptoCard : Claim7 := { stood := { row := buildBothUptoRow, standIns := [], harness := (true, "89ac176c5073a06bfb41e9a9c1b46b7c2722c58b72c43670d0ed7b5182b8db16"), looks := false }, kinds := [], alts := [], laidByText := true, laidKinds := [.listed, .data], laidTests := true, laidLooks := .later }
def BuildBothUptoCardSaid : Prop := Claim7.holds Tryz.pinned (.plain (OpenSpec.upto buildBothSpec)) buildBothUptoCard

/-- THE SECOND FORM's CARD OF 'delayslotlaw20.BuildSlow'. -/
def buildSlowUptoCard : Claim7 := { stood := { row := buildSlowUptoRow, standIns := [], harness := (true, "89ac176c5073a06bfb41e9a9c1b46b7c2722c58b72c43670d0ed7b5182b8db16"), looks := false }, kinds := [], alts := [], laidByText := true, laidKinds := [.listed, .data], laidTests := true, laidLooks := .later }
def BuildSlowUptoCardSaid : Prop := Claim7.holds Tryz.pinned (.plain (OpenSpec.upto buildSlowSpec)) buildSlowUptoCard

/-- THE SECOND FORM's CARD OF 'delayslotlaw20.BuildEcho'. -/
def buildEchoUptoCard : Claim7 := { stood := { row := buildEchoUptoRow, standIns := [], harness := (true, "89ac176c5073a06bfb41e9a9c1b46b7c2722c58b72c43670d0ed7b5182b8db16"), looks := false }, kinds := [], alts := [], laidByText := true, laidKinds := [.listed, .data], laidTests := true, laidLooks := .later }
def BuildEchoUptoCardSaid : Prop := Claim7.holds Tryz.pinned (.plain (OpenSpec.upto buildEchoSpec)) buildEchoUptoCard

/-- THE SECOND FORM's CARD OF 'delayslotlaw20.BuildModules'. -/
def buildModulesUptoCard : Claim7 := { stood := { row := buildModulesUptoRow, standIns := [], harness := (true, "89ac176c5073a06bfb41e9a9c1b46b7c2722c58b72c43670d0ed7b5182b8db16"), looks := false }, kinds := [], alts := [], laidByText := true, laidKinds := [.listed, .data], laidTests := true, laidLooks := .later }
def BuildModulesUptoCardSaid : Prop := Claim7.holds Tryz.pinned (.plain (OpenSpec.upto buildModulesSpec)) buildModulesUptoCard
end Rows
end Go.Proofs.YtkolmklfgbimoaaGreatDoor

/-
  DERIVED. GIVEN WITH THE SEED: THE CARDS: each row of YteddjcpaeoceeaaGreatDoorRows.lean that lists a variable, with what it lists TIED to the program's text (the seventh form; the later family's looks); each row that meets fmt, with fmt's text TOLD by the authors' own Lean function (tested against real Go, not proved from fmt's source: count such statements apart). THE CARD IS WHAT COUNTS. Prove the row's statement (the work); the ties are given (YteddjcpaeoceeaaGreatDoorTie.lean); close each card by the builder's one call (the guide's Derived/Test/ToyasCard.lean, 'card_holds'). Laid BY PROGRAM, IN A SANDBOX (cutbox-door.mjs). By AI agents, Wed Nov 11 2026. No macro, syntax, notation, axiom, sorry.
-/
import Derived.Test.YteddjcpaeoceeaaGreatDoorRows
import GoSem.ClaimSeven
namespace Go.Proofs.YteddjcpaeoceeaaGreatDoor
namespace Rows

/-- THE TIED CARD OF 'delayslotlaw19.CompileRuns'. -/
def compileRunsCard : Claim7 := { stood := { row := compileRunsRow, standIns := [], harness := (true, "10d5ef0d39ab3d832012694150b29ca2a7cbc8050557cdfe3ddc27fc5a74f9c0"), looks := false }, kinds := [], alts := [], laidByText := true, laidKinds := [.listed, .data], laidTests := true, laidLooks := .later }
def CompileRunsCardSaid : Prop := Claim7.holds Tryz.pinned (.plain (OpenSpec.ofChange compileRunsSpec)) compileRunsCard

/-- THE TIED CARD OF 'delayslotlaw19.CompileSums'. -/
def compileSumsCard : Claim7 := { stood := { row := compileSumsRow, standIns := [], harness := (true, "10d5ef0d39ab3d832012694150b29ca2a7cbc8050557cdfe3ddc27fc5a74f9c0"), looks := false }, kinds := [], alts := [], laidByText := true, laidKinds := [.listed, .data], laidTests := true, laidLooks := .later }
def CompileSumsCardSaid : Prop := Claim7.holds Tryz.pinned (.plain (OpenSpec.ofChange compileSumsSpec)) compileSumsCard

/-- THE TIED CARD OF 'delayslotlaw19.CompileOps'. -/
def compileOpsCard : Claim7 := { stood := { row := compileOpsRow, standIns := [], harness := (true, "10d5ef0d39ab3d832012694150b29ca2a7cbc8050557cdfe3ddc27fc5a74f9c0"), looks := false }, kinds := [], alts := [], laidByText := true, laidKinds := [.listed, .data], laidTests := true, laidLooks := .later }
def CompileOpsCardSaid : Prop := Claim7.holds Tryz.pinned (.plain (OpenSpec.ofChange compileOpsSpec)) compileOpsCard

/-- THE TIED CARD OF 'delayslotlaw19.CompileDivs'. -/
def compileDivsCard : Claim7 := { stood := { row := compileDivsRow, standIns := [], harness := (true, "10d5ef0d39ab3d832012694150b29ca2a7cbc8050557cdfe3ddc27fc5a74f9c0"), looks := false }, kinds := [], alts := [], laidByText := true, laidKinds := [.listed, .data], laidTests := true, laidLooks := .later }
def CompileDivsCardSaid : Prop := Claim7.holds Tryz.pinned (.plain (OpenSpec.ofChange compileDivsSpec)) compileDivsCard

/-- THE TIED CARD OF 'delayslotlaw19.CompileLists'. -/
def compileListsCard : Claim7 := { stood := { row := compileListsRow, standIns := [], harness := (true, "10d5ef0d39ab3d832012694150b29ca2a7cbc8050557cdfe3ddc27fc5a74f9c0"), looks := false }, kinds := [], alts := [], laidByText := true, laidKinds := [.listed, .data], laidTests := true, laidLooks := .later }
def CompileListsCardSaid : Prop := Claim7.holds Tryz.pinned (.plain (OpenSpec.ofChange compileListsSpec)) compileListsCard

/-- THE TIED CARD OF 'delayslotlaw19.CompileCalls'. -/
def compileCallsCard : Claim7 := { stood := { row := compileCallsRow, standIns := [], harness := (true, "10d5ef0d39ab3d832012694150b29ca2a7cbc8050557cdfe3ddc27fc5a74f9c0"), looks := false }, kinds := [], alts := [], laidByText := true, laidKinds := [.listed, .data], laidTests := true, laidLooks := .later }
def CompileCallsCardSaid : Prop := Claim7.holds Tryz.pinned (.plain (OpenSpec.ofChange compileCallsSpec)) compileCallsCard

/-- THE TIED CARD OF 'delayslotlaw19.CompileEcho'. -/
def compileEchoCard : Claim7 := { stood := { row := compileEchoRow, standIns := [], harness := (true, "10d5ef0d39ab3d832012694150b29ca2a7cbc8050557cdfe3ddc27fc5a74f9c0"), looks := false }, kinds := [], alts := [], laidByText := true, laidKinds := [.listed, .data], laidTests := true, laidLooks := .later }
def CompileEchoCardSaid : Prop := Claim7.holds Tryz.pinned (.plain (OpenSpec.ofChange compileEchoSpec)) compileEchoCard

/-- THE TIED CARD OF 'delayslotlaw19.CompileIfs'. -/
def compileIfsCard : Claim7 := { stood := { row := compileIfsRow, standIns := [], harness := (true, "10d5ef0d39ab3d832012694150b29ca2a7cbc8050557cdfe3ddc27fc5a74f9c0"), looks := false }, kinds := [], alts := [], laidByText := true, laidKinds := [.listed, .data], laidTests := true, laidLooks := .later }
def CompileIfsCardSaid : Prop := Claim7.holds Tryz.pinned (.plain (OpenSpec.ofChange compileIfsSpec)) compileIfsCard

/-- THE TIED CARD OF 'delayslotlaw19.CompileOwn'. -/
def compileOwnCard : Claim7 := { stood := { row := compileOwnRow, standIns := [], harness := (true, "10d5ef0d39ab3d832012694150b29ca2a7cbc8050557cdfe3ddc27fc5a74f9c0"), looks := false }, kinds := [], alts := [], laidByText := true, laidKinds := [.listed, .data], laidTests := true, laidLooks := .later }
def CompileOwnCardSaid : Prop := Claim7.holds Tryz.pinned (.plain (OpenSpec.ofChange compileOwnSpec)) compileOwnCard

/-- THE SECOND FORM's CARD OF 'delayslotlaw19.CompileRuns'. -/
def compileRunsUptoCard : Claim7 := { stood := { row := compileRunsUptoRow, standIns := [], harness := (true, "10d5ef0d39ab3d832012694150b29ca2a7cbc8050557cdfe3ddc27fc5a74f9c0"), looks := false }, kinds := [], alts := [], laidByText := true, laidKinds := [.listed, .data], laidTests := true, laidLooks := .later }
def CompileRunsUptoCardSaid : Prop := Claim7.holds Tryz.pinned (.plain (OpenSpec.upto compileRunsSpec)) compileRunsUptoCard

/-- THE SECOND FORM's CARD OF 'delayslotlaw19.CompileSums'. -/
def compileSumsUptoCard : Claim7 := { stood := { row := compileSumsUptoRow, standIns := [], harness := (true, "10d5ef0d39ab3d832012694150b29ca2a7cbc8050557cdfe3ddc27fc5a74f9c0"), looks := false }, kinds := [], alts := [], laidByText := true, laidKinds := [.listed, .data], laidTests := true, laidLooks := .later }
def CompileSumsUptoCardSaid : Prop := Claim7.holds Tryz.pinned (.plain (OpenSpec.upto compileSumsSpec)) compileSumsUptoCard

/-- THE SECOND FORM's CARD OF 'delayslotlaw19.CompileOps'. -/
def compileOpsUptoCard : Claim7 := { stood := { row := compileOpsUptoRow, standIns := [], harness := (true, "10d5ef0d39ab3d832012694150b29ca2a7cbc8050557cdfe3ddc27fc5a74f9c0"), looks := false }, kinds := [], alts := [], laidByText := true, laidKinds := [.listed, .data], laidTests := true, laidLooks := .later }
def CompileOpsUptoCardSaid : Prop := Claim7.holds Tryz.pinned (.plain (OpenSpec.upto compileOpsSpec)) compileOpsUptoCard

/-- THE SECOND FORM's CARD OF 'delayslotlaw19.CompileDivs'. -/
def compileDivsUptoCard : Claim7 := { stood := { row := compileDivsUptoRow, standIns := [], harness := (true, "10d5ef0d39ab3d832012694150b29ca2a7cbc8050557cdfe3ddc27fc5a74f9c0"), looks := false }, kinds := [], alts := [], laidByText := true, laidKinds := [.listed, .data], laidTests := true, laidLooks := .later }
def CompileDivsUptoCardSaid : Prop := Claim7.holds Tryz.pinned (.plain (OpenSpec.upto compileDivsSpec)) compileDivsUptoCard

/-- THE SECOND FORM's CARD OF 'delayslotlaw19.CompileLists'. -/
def compileListsUptoCard : Claim7 := { stood := { row := compileListsUptoRow, standIns := [], harness := (true, "10d5ef0d39ab3d832012694150b29ca2a7cbc8050557cdfe3ddc27fc5a74f9c0"), looks := false }, kinds := [], alts := [], laidByText := true, laidKinds := [.listed, .data], laidTests := true, laidLooks := .later }
def CompileListsUptoCardSaid : Prop := Claim7.holds Tryz.pinned (.plain (OpenSpec.upto compileListsSpec)) compileListsUptoCard

/-- THE SECOND FORM's CARD OF 'delayslotlaw19.CompileCalls'. -/
def compileCallsUptoCard : Claim7 := { stood := { row := compileCallsUptoRow, standIns := [], harness := (true, "10d5ef0d39ab3d832012694150b29ca2a7cbc8050557cdfe3ddc27fc5a74f9c0"), looks := false }, kinds := [], alts := [], laidByText := true, laidKinds := [.listed, .data], laidTests := true, laidLooks := .later }
def CompileCallsUptoCardSaid : Prop := Claim7.holds Tryz.pinned (.plain (OpenSpec.upto compileCallsSpec)) compileCallsUptoCard

/-- THE SECOND FORM's CARD OF 'delayslotlaw19.CompileEcho'. -/
def compileEchoUptoCard : Claim7 := { stood := { row := compileEchoUptoRow, standIns := [], harness := (true, "10d5ef0d39ab3d832012694150b29ca2a7cbc8050557cdfe3ddc27fc5a74f9c0"), looks := false }, kinds := [], alts := [], laidByText := true, laidKinds := [.listed, .data], laidTests := true, laidLooks := .later }
def CompileEchoUptoCardSaid : Prop := Claim7.holds Tryz.pinned (.plain (OpenSpec.upto compileEchoSpec)) compileEchoUptoCard

/-- THE SECOND FORM's CARD OF 'delayslotlaw19.CompileIfs'. -/
def compileIfsUptoCard : Claim7 := { stood := { row := compileIfsUptoRow, standIns := [], harness := (true, "10d5ef0d39ab3d832012694150b29ca2a7cbc8050557cdfe3ddc27fc5a74f9c0"), looks := false }, kinds := [], alts := [], laidByText := true, laidKinds := [.listed, .data], laidTests := true, laidLooks := .later }
def CompileIfsUptoCardSaid : Prop := Claim7.holds Tryz.pinned (.plain (OpenSpec.upto compileIfsSpec)) compileIfsUptoCard

/-- THE SECOND FORM's CARD OF 'delayslotlaw19.CompileOwn'. -/
def compileOwnUptoCard : Claim7 := { stood := { row := compileOwnUptoRow, standIns := [], harness := (true, "10d5ef0d39ab3d832012694150b29ca2a7cbc8050557cdfe3ddc27fc5a74f9c0"), looks := false }, kinds := [], alts := [], laidByText := true, laidKinds := [.listed, .data], laidTests := true, laidLooks := .later }
def CompileOwnUptoCardSaid : Prop := Claim7.holds Tryz.pinned (.plain (OpenSpec.upto compileOwnSpec)) compileOwnUptoCard
end Rows
end Go.Proofs.YteddjcpaeoceeaaGreatDoor

/-
  DERIVED. GIVEN WITH THE SEED: THE CARDS: each row of YteddjcpaeoceeaaDoorRows.lean that lists a variable, with what it lists TIED to the program's text (the seventh form; the later family's looks); each row that meets fmt, with fmt's text TOLD by the authors' own Lean function (tested against real Go, not proved from fmt's source: count such statements apart). THE CARD IS WHAT COUNTS. Prove the row's statement (the work); the ties are given (YteddjcpaeoceeaaDoorTie.lean); close each card by the builder's one call (the guide's Derived/Test/ToyasCard.lean, 'card_holds'). Laid BY PROGRAM, IN A SANDBOX (cutbox-door.mjs). By AI agents, Wed Nov 11 2026. No macro, syntax, notation, axiom, sorry.
-/
import Derived.Test.YteddjcpaeoceeaaDoorRows
import GoSem.ClaimSeven
namespace Go.Proofs.YteddjcpaeoceeaaDoor
namespace Rows

/-- THE TIED CARD OF 'delayslotlaw19.CompileBlanks'. -/
def compileBlanksCard : Claim7 := { stood := { row := compileBlanksRow, standIns := [], harness := (true, "dc8cdb491409af667d0615151ad92f03d0ef0c51e4fedf9d549f1365fdd9477d"), looks := false }, kinds := [], alts := [], laidByText := true, laidKinds := [.listed, .data], laidTests := true, laidLooks := .later }
def CompileBlanksCardSaid : Prop := Claim7.holds Tryd.pinned (.plain (OpenSpec.ofChange compileBlanksSpec)) compileBlanksCard

/-- THE TIED CARD OF 'delayslotlaw19.CompileData'. -/
def compileDataCard : Claim7 := { stood := { row := compileDataRow, standIns := [], harness := (true, "dc8cdb491409af667d0615151ad92f03d0ef0c51e4fedf9d549f1365fdd9477d"), looks := false }, kinds := [], alts := [], laidByText := true, laidKinds := [.listed, .data], laidTests := true, laidLooks := .later }
def CompileDataCardSaid : Prop := Claim7.holds Tryd.pinned (.plain (OpenSpec.ofChange compileDataSpec)) compileDataCard

/-- THE TIED CARD OF 'delayslotlaw19.CompileNest'. -/
def compileNestCard : Claim7 := { stood := { row := compileNestRow, standIns := [], harness := (true, "dc8cdb491409af667d0615151ad92f03d0ef0c51e4fedf9d549f1365fdd9477d"), looks := false }, kinds := [], alts := [], laidByText := true, laidKinds := [.listed, .data], laidTests := true, laidLooks := .later }
def CompileNestCardSaid : Prop := Claim7.holds Tryd.pinned (.plain (OpenSpec.ofChange compileNestSpec)) compileNestCard

/-- THE SECOND FORM's CARD OF 'delayslotlaw19.CompileBlanks'. -/
def compileBlanksUptoCard : Claim7 := { stood := { row := compileBlanksUptoRow, standIns := [], harness := (true, "dc8cdb491409af667d0615151ad92f03d0ef0c51e4fedf9d549f1365fdd9477d"), looks := false }, kinds := [], alts := [], laidByText := true, laidKinds := [.listed, .data], laidTests := true, laidLooks := .later }
def CompileBlanksUptoCardSaid : Prop := Claim7.holds Tryd.pinned (.plain (OpenSpec.upto compileBlanksSpec)) compileBlanksUptoCard

/-- THE SECOND FORM's CARD OF 'delayslotlaw19.CompileData'. -/
def compileDataUptoCard : Claim7 := { stood := { row := compileDataUptoRow, standIns := [], harness := (true, "dc8cdb491409af667d0615151ad92f03d0ef0c51e4fedf9d549f1365fdd9477d"), looks := false }, kinds := [], alts := [], laidByText := true, laidKinds := [.listed, .data], laidTests := true, laidLooks := .later }
def CompileDataUptoCardSaid : Prop := Claim7.holds Tryd.pinned (.plain (OpenSpec.upto compileDataSpec)) compileDataUptoCard

/-- THE SECOND FORM's CARD OF 'delayslotlaw19.CompileNest'. -/
def compileNestUptoCard : Claim7 := { stood := { row := compileNestUptoRow, standIns := [], harness := (true, "dc8cdb491409af667d0615151ad92f03d0ef0c51e4fedf9d549f1365fdd9477d"), looks := false }, kinds := [], alts := [], laidByText := true, laidKinds := [.listed, .data], laidTests := true, laidLooks := .later }
def CompileNestUptoCardSaid : Prop := Claim7.holds Tryd.pinned (.plain (OpenSpec.upto compileNestSpec)) compileNestUptoCard
end Rows
end Go.Proofs.YteddjcpaeoceeaaDoor

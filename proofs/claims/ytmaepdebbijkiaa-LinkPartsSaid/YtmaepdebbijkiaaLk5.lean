/- Link: what it answers. -/
import Derived.Test.YtmaepdebbijkiaaLk4
namespace Go.Proofs.Ytmaepdebbijkiaa
open Go Go.Sx Go.Sx.Chunk
set_option linter.unusedVariables false
set_option linter.unusedSimpArgs false

/-- One object's patches. -/
def patsF (b : Ba) (syms : List Sym) (all mem : Int) (imps : List ByteArray) : List In → List Pa → Int × List In
  | code, [] => (0, code)
  | code, p :: l => let r := patchF code b syms all mem imps p
    if r.1 = 0 then patsF b syms all mem imps r.2 l else r
/-- All objects' patches, from the k-th on. -/
def objsF (syms : List Sym) (all mem : Int) : List In → List (Ba × Ob) → Int × List In
  | code, [] => (0, code)
  | code, x :: l => let r := patsF x.1 syms all mem x.2.imps code x.2.pats
    if r.1 = 0 then objsF syms all mem r.2 l else r
/-- The code, the data, the error. -/
def linkF (l : List Ob) (mem : Int) : List In × Int × Int :=
  if l.length = 0 ∨ mem < 0 ∨ 32000 < mem ∨ l.any (fun o => !goodO o) = true then ([], 0, 1)
  else match namesF [] [] 0 l with
    | none => ([], 0, 6)
    | some syms => if 4096 < (codeF l).length ∨ mem < dataF l then ([], 0, 4)
      else let r := objsF syms (dataF l) mem (codeF l) ((baseK l l.length).zip l)
        if r.1 = 0 then (r.2, dataF l, 0) else ([], 0, r.1)
theorem patchF_len (code : List In) (b : Ba) (syms : List Sym) (all mem : Int) (imps : List ByteArray) (p : Pa) : (patchF code b syms all mem imps p).2.length = code.length := by
  unfold patchF
  dsimp only
  split
  · rfl
  · split <;> simp
theorem patchF_good {code : List In} {b : Ba} {syms : List Sym} {all mem : Int} {imps : List ByteArray} {p : Pa} (h : ∀ i ∈ code, goodI i = true) : ∀ i ∈ (patchF code b syms all mem imps p).2, goodI i = true := by
  unfold patchF
  dsimp only
  split
  · exact h
  · split
    · intro i hi
      rcases List.mem_or_eq_of_mem_set hi with hi | rfl
      · exact h i hi
      · assumption
    · exact h
end Go.Proofs.Ytmaepdebbijkiaa

/- The awake test. -/
import Derived.Test.YtdjjlpgphkbehaaSd2
namespace Go.Proofs.Ytdjjlpgphkbehaa
open Go Go.Sx Go.Sx.Chunk
set_option linter.unusedVariables false
set_option linter.unusedSimpArgs false

def nm : ByteArray := ⟨#[120]⟩

set_option maxHeartbeats 8000000 in
theorem awake_spec : FnC (α := Unit) Try.prog 7 [] [] [] (fun _ => .bool true) (fun _ => []) (fun _ => True) := by
  refine fn_intro Try.func7 Try.ntmps7 rfl rfl rfl (fun w0 => ?_)
  try simp only [List.cons_append, List.nil_append, List.append_nil]
  refine rr ?_
  intro b _
  refine w_turn (fun w hw => ((hw.row_nil 3 1).row_nil 51 2).sub [2, 0, 0] (A := tbH b [] [] ⟨none, 0, none, 0⟩) rfl) ?_
  refine rr ?_
  refine ca [0, 0, 0] (openC b _ [] [] [0] (by decide +kernel) rfl) ?_
  intro x hx
  try simp only [List.cons_append, List.nil_append, List.append_nil]
  refine rr ?_
  refine ca [0, 0, 0] (defineC b _ [] [(nm, 1)] [0] nm 1 true (by decide +kernel) (by decide +kernel) (by decide +kernel)) ?_
  intro x hx
  try simp only [List.cons_append, List.nil_append, List.append_nil]
  refine rr ?_
  refine ca [0, 0, 0] (openC b _ [(nm, 1)] [0] [0, 1] (by decide +kernel) rfl) ?_
  intro x hx
  try simp only [List.cons_append, List.nil_append, List.append_nil]
  refine rr ?_
  refine ca [0, 0, 0] (defineC b _ [(nm, 1)] [(nm, 1), (nm, 2)] [0, 1] nm 2 true (by decide +kernel) (by decide +kernel) (by decide +kernel)) ?_
  intro x hx
  try simp only [List.cons_append, List.nil_append, List.append_nil]
  refine rr ?_
  refine ca [0, 0, 0] (findC b _ [(nm, 1), (nm, 2)] [0, 1] nm (2, 2, true) (by decide +kernel) (by decide +kernel)) ?_
  intro x hx
  try simp only [List.cons_append, List.nil_append, List.append_nil]
  refine rr ?_
  refine ca [0, 0, 0] (closeC b _ [(nm, 1), (nm, 2)] [(nm, 1)] [0, 1] [0] true (by decide +kernel) (by decide +kernel) (by decide +kernel) (by decide +kernel)) ?_
  intro x hx
  try simp only [List.cons_append, List.nil_append, List.append_nil]
  refine rr ?_
  refine ca [0, 0, 0] (findC b _ [(nm, 1)] [0] nm (1, 1, true) (by decide +kernel) (by decide +kernel)) ?_
  intro x hx
  try simp only [List.cons_append, List.nil_append, List.append_nil]
  refine rr ?_
  refine ca [0, 0, 0] (depthC b _ [(nm, 1)] [0]) ?_
  intro x hx
  try simp only [List.cons_append, List.nil_append, List.append_nil]
  refine rr ?_
  exact w_end1 () [] (.inl rfl) rfl rfl rfl rfl trivial
end Go.Proofs.Ytdjjlpgphkbehaa

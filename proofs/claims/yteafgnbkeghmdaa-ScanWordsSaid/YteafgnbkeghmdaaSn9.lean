/- The fixed answer of stage 16. -/
import Derived.Test.YteafgnbkeghmdaaSn8
namespace Go.Proofs.Yteafgnbkeghmdaa
open Go Go.Sx Go.Sx.Chunk
set_option linter.unusedVariables false
set_option linter.unusedSimpArgs false

def aw1 : ByteArray := ⟨#[120, 58, 61, 49, 50, 32, 123, 99, 125, 59]⟩
def aw2 : ByteArray := ⟨#[97, 32, 63]⟩
theorem aw1_res : scanD 0 (txt aw1) = ([(⟨1, [120], 0⟩, 0), (⟨3, [58, 61], 0⟩, 1), (⟨2, [], 12⟩, 3), (⟨3, [59], 0⟩, 9)], 0, 0) := by decide +kernel
theorem aw2_res : scanD 0 (txt aw2) = ([], 2, 2) := by decide +kernel
set_option maxHeartbeats 4000000 in
theorem awakeC : FnC (α := Unit) Try.prog 9 [] [] [] (fun _ => .bool true) (fun _ => []) (fun _ => True) := by
  refine fn_intro Try.func9 Try.ntmps9 rfl rfl rfl (fun w0 => ?_)
  try simp only [List.cons_append, List.nil_append, List.append_nil]
  refine rr ?_
  refine ca [] (scanC aw1 (by decide)) ?_
  intro x hx
  try simp only [List.cons_append, List.nil_append, List.append_nil]
  rw [aw1_res]
  obtain ⟨a1, c1⟩ := x
  dsimp only
  refine w_use (fun w hw => (hw.pick 0 rfl).row_some (by first | omega | decide | (simp; done) | (simp <;> omega))) ?_
  rintro ⟨g1, rfl⟩
  refine rr ?_
  refine ca [] (scanC aw2 (by decide)) ?_
  intro x hx
  try simp only [List.cons_append, List.nil_append, List.append_nil]
  rw [aw2_res]
  refine rr ?_
  exact we () [] trivial

end Go.Proofs.Yteafgnbkeghmdaa

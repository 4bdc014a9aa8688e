/- Contracts of package scan: where a byte is, beginnings, numbers, runs. -/
import Derived.Test.YteafgnbkeghmdaaSn1
namespace Go.Proofs.Yteafgnbkeghmdaa
open Go Go.Sx Go.Sx.Chunk
set_option linter.unusedVariables false
set_option linter.unusedSimpArgs false

/-- Where a byte is first. -/
def idxB (s : ByteArray) (c : Int) : Int := Lib.indexByte s.data.toList c.toNat.toUInt8
theorem ext27 (s : ByteArray) (c : Int) (w : World) : (callFunc 27 #[.string s, .int .u8 c]).run Try.prog w = .ok (.value (.int .i64 (idxB s c))) w := by
  rw [run_callFunc_extern Try.func27 (by kernel_rfl) (by kernel_rfl) (by kernel_rfl) (e := Extern.BytealgIndexByte.indexByte) (by kernel_rfl), Lib.run_indexByteString]
  rfl
theorem idx19 (s : ByteArray) (c : Int) : FnC (α := Unit) Try.prog 19 [.string s, .int .u8 c] [] [] (fun _ => .int .i64 (idxB s c)) (fun _ => []) (fun _ => True) := by
  refine fn_intro Try.func19 Try.ntmps19 rfl rfl rfl (fun w0 => ?_)
  try simp only [List.cons_append, List.nil_append, List.append_nil]
  refine rr ?_
  refine w_g (g_call rfl (ext27 s c)) rfl ?_
  refine rr ?_
  exact we () [] trivial
theorem idxC (s : ByteArray) (c : Int) : FnC (α := Unit) Try.prog 13 [.string s, .int .u8 c] [] [] (fun _ => .int .i64 (idxB s c)) (fun _ => []) (fun _ => True) := by
  refine fn_intro Try.func13 Try.ntmps13 rfl rfl rfl (fun w0 => ?_)
  try simp only [List.cons_append, List.nil_append, List.append_nil]
  refine rr ?_
  refine ca [] (idx19 s c) ?_
  intro x hx
  try simp only [List.cons_append, List.nil_append, List.append_nil]
  refine rr ?_
  exact we () [] trivial
/-- Does it begin so? -/
def hasP (s p : ByteArray) : Bool := decide (p.size ≤ s.size) && decide (s.extract 0 p.size = p)
theorem pre29 (s p : ByteArray) : FnC (α := Unit) Try.prog 29 [.string s, .string p] [] [] (fun _ => .bool (hasP s p)) (fun _ => []) (fun _ => True) := by
  refine fn_intro Try.func29 Try.ntmps29 rfl rfl rfl (fun w0 => ?_)
  try simp only [List.cons_append, List.nil_append, List.append_nil]
  by_cases h : p.size ≤ s.size
  · refine rr ?_
    refine we () [] trivial (hv := ?_)
    simp [packR, hasP, h]
  · refine rr ?_
    refine we () [] trivial (hv := ?_)
    simp [packR, hasP, h]
theorem preC (s p : ByteArray) : FnC (α := Unit) Try.prog 28 [.string s, .string p] [] [] (fun _ => .bool (hasP s p)) (fun _ => []) (fun _ => True) := by
  refine fn_intro Try.func28 Try.ntmps28 rfl rfl rfl (fun w0 => ?_)
  try simp only [List.cons_append, List.nil_append, List.append_nil]
  refine rr ?_
  refine ca [] (pre29 s p) ?_
  intro x hx
  try simp only [List.cons_append, List.nil_append, List.append_nil]
  refine rr ?_
  exact we () [] trivial
end Go.Proofs.Yteafgnbkeghmdaa

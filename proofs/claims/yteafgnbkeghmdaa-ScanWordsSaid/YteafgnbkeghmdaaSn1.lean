/- Contracts of package scan: letters, digits, signs. -/
import Derived.Test.YteafgnbkeghmdaaRr
namespace Go.Proofs.Yteafgnbkeghmdaa
open Go Go.Sx Go.Sx.Chunk
set_option linter.unusedVariables false
set_option linter.unusedSimpArgs false

def isLetter (c : Int) : Bool := (decide (97 ≤ c) && decide (c ≤ 122)) || (decide (65 ≤ c) && decide (c ≤ 90))
def isDigit (c : Int) : Bool := decide (48 ≤ c) && decide (c ≤ 57)

theorem digitC (c : Int) : FnC (α := Unit) Try.prog 23 [.int .u8 c] [] [] (fun _ => .bool (isDigit c)) (fun _ => []) (fun _ => True) := by
  refine fn_intro Try.func23 Try.ntmps23 rfl rfl rfl (fun w0 => ?_)
  try simp only [List.cons_append, List.nil_append, List.append_nil]
  by_cases h : 48 ≤ c
  · refine rr ?_
    refine we () [] trivial (hv := ?_)
    simp only [isDigit, packR, h, decide_true, Bool.true_and]
  · refine rr ?_
    refine we () [] trivial (hv := ?_)
    simp [isDigit, packR, h]
theorem letterC (c : Int) : FnC (α := Unit) Try.prog 20 [.int .u8 c] [] [] (fun _ => .bool (isLetter c)) (fun _ => []) (fun _ => True) := by
  refine fn_intro Try.func20 Try.ntmps20 rfl rfl rfl (fun w0 => ?_)
  try simp only [List.cons_append, List.nil_append, List.append_nil]
  by_cases h : 97 ≤ c
  · by_cases h2 : c ≤ 122
    · refine rr ?_
      refine we () [] trivial (hv := ?_)
      simp [isLetter, packR, h, h2]
    · refine rr ?_
      refine we () [] trivial (hv := ?_)
      simp [isLetter, packR, h, h2]
      intros; omega
  · by_cases h3 : 65 ≤ c
    · refine rr ?_
      refine we () [] trivial (hv := ?_)
      simp [isLetter, packR, h, h3]
    · refine rr ?_
      refine we () [] trivial (hv := ?_)
      simp [isLetter, packR, h, h3]
theorem ldC (c : Int) : FnC (α := Unit) Try.prog 22 [.int .u8 c] [] [] (fun _ => .bool (isLetter c || isDigit c)) (fun _ => []) (fun _ => True) := by
  refine fn_intro Try.func22 Try.ntmps22 rfl rfl rfl (fun w0 => ?_)
  try simp only [List.cons_append, List.nil_append, List.append_nil]
  refine rr ?_
  refine ca [] (letterC c) ?_
  intro x hx
  try simp only [List.cons_append, List.nil_append, List.append_nil]
  cases h : isLetter c with
  | true =>
    refine rr ?_
    exact we () [] trivial
  | false =>
    refine rr ?_
    refine ca [] (digitC c) ?_
    intro x hx
    try simp only [List.cons_append, List.nil_append, List.append_nil]
    refine rr ?_
    refine we () [] trivial (hv := ?_)
    simp [packR]
end Go.Proofs.Yteafgnbkeghmdaa

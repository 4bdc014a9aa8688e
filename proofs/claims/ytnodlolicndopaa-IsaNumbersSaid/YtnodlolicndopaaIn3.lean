/- IsaNumbers: the walk and its plain law. -/
import Derived.Test.YtnodlolicndopaaIn1
namespace Go.Proofs.Ytnodlolicndopaa
open Go Go.Sx Go.Sx.Chunk
open Go.Proofs.Ytnodlolicndopaa.Pure.Numbers
set_option linter.unusedVariables false
set_option linter.unusedSimpArgs false

set_option maxHeartbeats 8000000 in
theorem numbers_spec (n a1 : Int) (bn : inK .i16 n) (b1 : inK .u8 a1) :
    FnC (α := Unit) Try.prog 7 [.int .i16 n, .int .u8 a1] [] [] (fun _ => .bool true) (fun _ => []) (fun _ => True) := by
  have bn : -32768 ≤ n ∧ n ≤ 32767 := bn
  have b1 : 0 ≤ a1 ∧ a1 ≤ 255 := b1
  have t0 : IntKind.i64.wrap n = n := wrap_in (inK_i64 (by omega) (by omega))
  have t1 : IntKind.i64.wrap (Int.tmod a1 32) = a1 % 32 := by rw [Int.tmod_eq_emod_of_nonneg b1.1]; exact wrap_in (inK_i64 (by omega) (by omega))
  have ha' : 0 ≤ a1 % 32 ∧ a1 % 32 < 32 := by omega
  generalize a1 % 32 = a at t1 ha'
  have r1 : rightS 10 a 0 0 n = true := by
    have eo : ofS 10 = (true, true, false, true, true) := by decide
    unfold rightS regS numS; rw [eo]; simp; omega
  have r2 : rightS 17 0 0 0 n = decide (0 ≤ n ∧ n ≤ 4096) := by
    have eo : ofS 17 = (false, false, false, true, true) := by decide
    unfold rightS regS numS; rw [eo, Bool.eq_iff_iff]; simp; omega
  have r3 : rightS 20 0 0 0 n = decide (0 ≤ n ∧ n ≤ 2) := by
    have eo : ofS 20 = (false, false, false, true, true) := by decide
    unfold rightS regS numS; rw [eo, Bool.eq_iff_iff]; simp; omega
  have r4 : rightS 14 a 0 0 n = decide (0 ≤ n) := by
    have eo : ofS 14 = (true, true, false, true, true) := by decide
    unfold rightS regS numS; rw [eo, Bool.eq_iff_iff]; simp; omega
  have m1 : Int.tmod (encS 10 a 0 0 n) 65536 = n % 65536 := by
    have : 0 ≤ encS 10 a 0 0 n := by unfold encS; omega
    rw [Int.tmod_eq_emod_of_nonneg this]; unfold encS; omega
  have m2 : Int.tmod (n + 65536) 65536 = n % 65536 := by
    rw [Int.tmod_eq_emod_of_nonneg (by omega)]; omega
  refine fn_intro Try.func7 Try.ntmps7 rfl rfl rfl (fun w0 => ?_)
  try simp only [List.cons_append, List.nil_append, List.append_nil]
  refine rr ?_
  rw [t0, t1]
  refine rr ?_
  refine ca [] (encC 10 a 0 0 n r1) ?_
  intro x hx
  try simp only [List.cons_append, List.nil_append, List.append_nil]
  refine rr ?_
  refine ca [] (rightC 17 0 0 0 n) ?_
  intro x hx
  try simp only [List.cons_append, List.nil_append, List.append_nil]
  refine rr ?_
  refine ca [] (rightC 20 0 0 0 n) ?_
  intro x hx
  try simp only [List.cons_append, List.nil_append, List.append_nil]
  refine rr ?_
  rw [t1]
  refine ca [] (rightC 14 a 0 0 n) ?_
  intro x hx
  try simp only [List.cons_append, List.nil_append, List.append_nil]
  rw [r4]
  refine rr ?_
  rw [m1, m2]
  refine w_gset true rfl rfl (by simp) ?_
  by_cases h : 0 ≤ n
  · refine rr ?_
    refine w_gset true rfl rfl (by rw [r2, beq_iff_eq, Bool.eq_iff_iff]; simp; omega) ?_
    refine rr ?_
    refine w_gset true rfl rfl (by rw [r3, beq_iff_eq, Bool.eq_iff_iff]; simp; omega) ?_
    refine rr ?_
    refine ca [] awakeC ?_
    intro x hx
    try simp only [List.cons_append, List.nil_append, List.append_nil]
    refine rr ?_
    exact w_end1 () [] (.inl rfl) rfl rfl rfl rfl trivial
  · refine rr ?_
    refine w_gset true rfl rfl (by rw [r2]; simp; omega) ?_
    refine rr ?_
    refine w_gset true rfl rfl (by rw [r3]; simp; omega) ?_
    refine rr ?_
    refine ca [] awakeC ?_
    intro x hx
    try simp only [List.cons_append, List.nil_append, List.append_nil]
    refine rr ?_
    exact w_end1 () [] (.inl rfl) rfl rfl rfl rfl trivial
end Go.Proofs.Ytnodlolicndopaa

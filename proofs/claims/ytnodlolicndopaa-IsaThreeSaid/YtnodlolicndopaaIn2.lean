/- IsaThree: the walk and its plain law. -/
import Derived.Test.YtnodlolicndopaaIn1
namespace Go.Proofs.Ytnodlolicndopaa
open Go Go.Sx Go.Sx.Chunk
open Go.Proofs.Ytnodlolicndopaa.Pure.Numbers
set_option linter.unusedVariables false
set_option linter.unusedSimpArgs false

set_option maxHeartbeats 8000000 in
theorem three_spec (a0 a1 a2 a3 a4 : Int) (b0 : inK .u8 a0) (b1 : inK .u8 a1) (b2 : inK .u8 a2) (b3 : inK .u8 a3) (b4 : inK .u8 a4) :
    FnC (α := Unit) Try.prog 6 [.int .u8 a0, .int .u8 a1, .int .u8 a2, .int .u8 a3, .int .u8 a4] [] [] (fun _ => .bool true) (fun _ => []) (fun _ => True) := by
  have b0 : 0 ≤ a0 ∧ a0 ≤ 255 := b0
  have b1 : 0 ≤ a1 ∧ a1 ≤ 255 := b1
  have b2 : 0 ≤ a2 ∧ a2 ≤ 255 := b2
  have b3 : 0 ≤ a3 ∧ a3 ≤ 255 := b3
  have b4 : 0 ≤ a4 ∧ a4 ≤ 255 := b4
  have t0 : IntKind.i64.wrap (Int.tmod a0 9) = a0 % 9 := by rw [Int.tmod_eq_emod_of_nonneg b0.1]; exact wrap_in (inK_i64 (by omega) (by omega))
  have t1 : IntKind.i64.wrap (Int.tmod a1 32) = a1 % 32 := by rw [Int.tmod_eq_emod_of_nonneg b1.1]; exact wrap_in (inK_i64 (by omega) (by omega))
  have t2 : IntKind.i64.wrap (Int.tmod a2 32) = a2 % 32 := by rw [Int.tmod_eq_emod_of_nonneg b2.1]; exact wrap_in (inK_i64 (by omega) (by omega))
  have t3 : IntKind.i64.wrap (Int.tmod a3 32) = a3 % 32 := by rw [Int.tmod_eq_emod_of_nonneg b3.1]; exact wrap_in (inK_i64 (by omega) (by omega))
  have t4 : IntKind.i64.wrap a4 = a4 := wrap_in (inK_i64 (by omega) (by omega))
  refine fn_intro Try.func6 Try.ntmps6 rfl rfl rfl (fun w0 => ?_)
  try simp only [List.cons_append, List.nil_append, List.append_nil]
  refine rr ?_
  rw [t0]
  refine rr ?_
  rw [t1, t2, t3]
  generalize hop : 1 + a0 % 9 = op
  generalize ha : a1 % 32 = a
  generalize hb : a2 % 32 = b
  generalize hc : a3 % 32 = c
  have ho : 1 ≤ op ∧ op ≤ 9 := by omega
  have ha' : 0 ≤ a ∧ a < 32 := by omega
  have hb' : 0 ≤ b ∧ b < 32 := by omega
  have hc' : 0 ≤ c ∧ c < 32 := by omega
  clear hop ha hb hc t0 t1 t2 t3
  have eo : ofS op = (true, true, true, false, true) := by
    unfold ofS; rw [if_neg (by omega), if_pos (by omega)]
  have r1 : rightS op a b c 0 = true := by
    unfold rightS regS; rw [eo]; simp; omega
  have r2 : rightS op a b c (1 + a4) = false := by
    unfold rightS regS; rw [eo]; simp; intros; omega
  intro p _
  refine rr ?_
  refine ca [] (encC op a b c 0 r1) ?_
  intro x hx
  try simp only [List.cons_append, List.nil_append, List.append_nil]
  refine rr ?_
  intro p2 _
  refine rr ?_
  rw [t4]
  refine rr ?_
  refine w_gset true rfl rfl ?_ ?_
  · rw [show (2 : Int) ^ min (Int.toNat 26) IntKind.i64.bits = 67108864 by decide, show (2 : Int) ^ min (Int.toNat 21) IntKind.i64.bits = 2097152 by decide, show (2 : Int) ^ min (Int.toNat 16) IntKind.i64.bits = 65536 by decide, show (2 : Int) ^ min (Int.toNat 11) IntKind.i64.bits = 2048 by decide]
    rw [wrap_in (inK_i64 (by omega) (by omega)), wrap_in (inK_i64 (by omega) (by omega)), wrap_in (inK_i64 (by omega) (by omega)), wrap_in (inK_i64 (by omega) (by omega))]
    rw [or_i64 26 (op * 67108864) (a * 2097152) (by omega) (by omega) (by omega) (by omega) (by omega) (by omega)]
    rw [or_i64 21 (op * 67108864 + a * 2097152) (b * 65536) (by omega) (by omega) (by omega) (by omega) (by omega) (by omega)]
    rw [or_i64 16 (op * 67108864 + a * 2097152 + b * 65536) (c * 2048) (by omega) (by omega) (by omega) (by omega) (by omega) (by omega)]
    unfold encS
    rw [beq_iff_eq]
    omega
  · refine rr ?_
    refine ca [] (rightC op a b c (1 + a4)) ?_
    intro x hx
    try simp only [List.cons_append, List.nil_append, List.append_nil]
    rw [r2]
    refine rr ?_
    refine ca [] awakeC ?_
    intro x hx
    try simp only [List.cons_append, List.nil_append, List.append_nil]
    refine rr ?_
    exact w_end1 () [] (.inl rfl) rfl rfl rfl rfl trivial
end Go.Proofs.Ytnodlolicndopaa

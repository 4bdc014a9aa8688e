/- Texts of the proof, in their order: Li2. -/
import Derived.Test.YteddjcpaeoceeaaGreatDoorM8
set_option linter.unusedVariables false
set_option linter.unusedSimpArgs false
namespace Go.Proofs.YteddjcpaeoceeaaGreatDoor.Cm
open Go Go.Sx Go.Sx.Chunk
set_option linter.unusedVariables false
set_option maxRecDepth 100000
set_option linter.unusedSimpArgs false
set_option maxHeartbeats 4000000 in
theorem ifsLawC (a b : Int) (ha : inK .i32 a) (hb : inK .i32 b) : FnC (α := Unit) Tryz.prog 10 [.int .i32 a, .int .i32 b] [] [spaceV] (fun _ => .bool true) (fun _ => []) (fun _ => True) := by
  obtain ⟨n, u, h1⟩ := ifs_runC a b ha hb
  have h2 := fun z wa wc => tellsC [max a b, min a b, if a = b then 1 else 2] u n z wa wc (by simp)
  have haw := awakeC
  have hr : (-2147483648 ≤ a ∧ a ≤ 2147483647) ∧ -2147483648 ≤ b ∧ b ≤ 2147483647 := by simpa [inK, IntKind.min, IntKind.max, IntKind.signed, IntKind.bits] using And.intro ha hb
  obtain ⟨⟨hr1, hr2⟩, hr3, hr4⟩ := hr
  unfold resG resH i64C at *
  by_cases he : a = b
  · simp only [if_pos he] at h1 h2
    refine fn_intro Tryz.func10 Tryz.ntmps10 rfl rfl rfl (fun w0 => ?_)
    try simp only [List.cons_append, List.nil_append, List.append_nil]
    refine rr ?_
    intro b1 _
    refine rr ?_
    refine cl (h1 _ (by kernel_rfl) _ _) ?_
    intro z _
    try simp only [List.cons_append, List.nil_append, List.append_nil]
    refine rr ?_
    intro b2 _
    refine rr ?_
    intro b3 _
    refine rr ?_
    refine cl (h2 z _ _) ?_
    intro _ _
    try simp only [List.cons_append, List.nil_append, List.append_nil]
    refine rr ?_
    refine cl (haw) ?_
    intro _ _
    try simp only [List.cons_append, List.nil_append, List.append_nil]
    refine rr ?_
    exact en () trivial
  · simp only [if_neg he] at h1 h2
    refine fn_intro Tryz.func10 Tryz.ntmps10 rfl rfl rfl (fun w0 => ?_)
    try simp only [List.cons_append, List.nil_append, List.append_nil]
    refine rr ?_
    intro b1 _
    refine rr ?_
    refine cl (h1 _ (by kernel_rfl) _ _) ?_
    intro z _
    try simp only [List.cons_append, List.nil_append, List.append_nil]
    refine rr ?_
    intro b2 _
    refine rr ?_
    intro b3 _
    refine rr ?_
    refine cl (h2 z _ _) ?_
    intro _ _
    try simp only [List.cons_append, List.nil_append, List.append_nil]
    refine rr ?_
    refine cl (haw) ?_
    intro _ _
    try simp only [List.cons_append, List.nil_append, List.append_nil]
    refine rr ?_
    exact en () trivial
end Go.Proofs.YteddjcpaeoceeaaGreatDoor.Cm

/- Texts of the proof, in their order: Li5. -/
import Derived.Test.YteddjcpaeoceeaaGreatDoorM8
set_option linter.unusedVariables false
set_option linter.unusedSimpArgs false
namespace Go.Proofs.YteddjcpaeoceeaaGreatDoor.Cm
open Go Go.Sx Go.Sx.Chunk
set_option linter.unusedVariables false
set_option maxRecDepth 100000
set_option linter.unusedSimpArgs false
theorem ops_cells (a b : Int) : [Value.int .i64 (w32 (a + b)), .int .i64 (w32 (a - b)), .int .i64 (w32 (a * b)), .int .i64 (w32 (-a)), .int .i64 (truQ (a == b)), .int .i64 (truQ (a != b)), .int .i64 (truQ (decide (a < b))), .int .i64 (truQ (decide (a > b))), .int .i64 (truQ (decide (a ≤ b))), .int .i64 (truQ (decide (a ≥ b))), .int .i64 (truQ (a == 0))] = List.map (fun n => Value.int IntKind.i64 n) (opsL a b) := by
  have e : (a != b) = decide (¬ a = b) := by rw [decide_not]; rfl
  rw [e]; rfl
set_option maxHeartbeats 8000000 in
theorem ops_law (a b : Int) (ha : inK .i32 a) (hb : inK .i32 b) : FnC (α := Unit) Tryz.prog 5 [.int .i32 a, .int .i32 b] [] [spaceV] (fun _ => .bool true) (fun _ => []) (fun _ => True) := by
  have haw := awakeC
  have wa := w32_of ha
  have wb := w32_of hb
  have hr : (-2147483648 ≤ a ∧ a ≤ 2147483647) ∧ -2147483648 ≤ b ∧ b ≤ 2147483647 := by simpa [inK, IntKind.min, IntKind.max, IntKind.signed, IntKind.bits] using And.intro ha hb
  obtain ⟨⟨hr1, hr2⟩, hr3, hr4⟩ := hr
  obtain ⟨n, u, hrun⟩ := ops_run a b wa wb
  have h1 := fun s hs => compT ops_fact s hs (by decide)
  have h2 := fun c x => linkT ops_fact c x
  have h3 := fun ca cc ia ic => runC ca cc opsC 10 ia ic [a, b] 1000 (by decide) (by simp)
  have m1 := rwrapC (a + b)
  have m2 := rwrapC (a - b)
  have m3 := rmulC a b
  rw [wa, wb] at m3
  have m4 := rwrapC (-a)
  have m5 := fun p => rtruthC p
  rw [hrun] at h3
  generalize compO opsT = o at *
  unfold linkV at h2
  unfold o6G o6H at h1
  unfold o6H o6V at h2
  unfold resG resH i64C at h3
  dsimp only at h1 h2 h3
  generalize opsC = code at *
  clear hrun wa wb
  refine fn_intro Tryz.func5 Tryz.ntmps5 rfl rfl rfl (fun w0 => ?_)
  try simp only [List.cons_append, List.nil_append, List.append_nil]
  refine rr ?_
  refine cl (h1 _ (by kernel_rfl)) ?_
  intro x _
  try simp only [List.cons_append, List.nil_append, List.append_nil]
  refine rr ?_
  intro b1 _
  refine rr ?_
  intro b2 _
  refine rr ?_
  refine cl (h2 b2 x) ?_
  intro z _
  try simp only [List.cons_append, List.nil_append, List.append_nil]
  refine rr ?_
  intro b3 _
  refine rr ?_
  intro b4 _
  refine rr ?_
  refine cl (h3 z.1 z.2 _ _) ?_
  intro y _
  try simp only [List.cons_append, List.nil_append, List.append_nil]
  refine rr ?_
  intro b5 _
  refine rr ?_
  refine cl (m1) ?_
  intro _ _
  try simp only [List.cons_append, List.nil_append, List.append_nil]
  refine rr ?_
  refine cl (m2) ?_
  intro _ _
  try simp only [List.cons_append, List.nil_append, List.append_nil]
  refine rr ?_
  refine cl (m3) ?_
  intro _ _
  try simp only [List.cons_append, List.nil_append, List.append_nil]
  refine rr ?_
  refine cl (m4) ?_
  intro _ _
  try simp only [List.cons_append, List.nil_append, List.append_nil]
  refine rr ?_
  refine cl (m5 _) ?_
  intro _ _
  try simp only [List.cons_append, List.nil_append, List.append_nil]
  refine rr ?_
  refine cl (m5 _) ?_
  intro _ _
  try simp only [List.cons_append, List.nil_append, List.append_nil]
  refine rr ?_
  refine cl (m5 _) ?_
  intro _ _
  try simp only [List.cons_append, List.nil_append, List.append_nil]
  refine rr ?_
  refine cl (m5 _) ?_
  intro _ _
  try simp only [List.cons_append, List.nil_append, List.append_nil]
  refine rr ?_
  refine cl (m5 _) ?_
  intro _ _
  try simp only [List.cons_append, List.nil_append, List.append_nil]
  refine rr ?_
  refine cl (m5 _) ?_
  intro _ _
  try simp only [List.cons_append, List.nil_append, List.append_nil]
  refine rr ?_
  refine cl (m5 _) ?_
  intro _ _
  try simp only [List.cons_append, List.nil_append, List.append_nil]
  refine rr ?_
  intro b6 _
  refine rr ?_
  rw [ops_cells]
  have hL : (opsL a b).length = 11 := rfl
  clear m1 m2 m3 m4
  generalize opsL a b = W at *
  refine wd_row (m := 11) (sz := 1) ?_ (by rw [List.length_map, hL]) (by unfold maxLen; omega)
  obtain ⟨y1, y2, y3, y4⟩ := y
  dsimp only
  refine w_use (fun w hw => (hw.pick 2 rfl).row_some (by omega)) ?_
  rintro ⟨g1, rfl⟩
  refine lo [11, 98, 99] (fun k : Nat => [(100, .int .i64 (k : Int))]) (fun k => []) (fun k => k ≤ 11) (fun k => 11 - k) 0 (Nat.zero_le _) ?_
  intro k hk K1 hK1
  try dsimp only at hk ⊢
  by_cases hlt : k < W.length
  · obtain ⟨v, hvk⟩ := some_at hlt
    have hg := i64C_get hvk
    unfold i64C at hg
    have hget : (List.map (fun n => Value.int IntKind.i64 n) W)[(k : Int).toNat * 1]? = some (.int .i64 v) := by rw [show (k : Int).toNat * 1 = k by omega]; exact hg
    have hget0 : (List.map (fun n => Value.int IntKind.i64 n) W)[0 + (k : Int).toNat * 1]? = some (.int .i64 v) := by rw [Nat.zero_add]; exact hget
    refine rr ?_
    exact ro hK1 (k + 1) (by omega)
  · obtain rfl : k = 11 := by omega
    refine rr ?_
    refine cl (haw) ?_
    intro _ _
    try simp only [List.cons_append, List.nil_append, List.append_nil]
    refine rr ?_
    exact en () trivial
end Go.Proofs.YteddjcpaeoceeaaGreatDoor.Cm

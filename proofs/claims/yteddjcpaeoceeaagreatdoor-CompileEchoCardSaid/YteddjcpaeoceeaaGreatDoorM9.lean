/- Texts of the proof, in their order: Li2, Li3. -/
import Derived.Test.YteddjcpaeoceeaaGreatDoorM8
set_option linter.unusedVariables false
set_option linter.unusedSimpArgs false
namespace Go.Proofs.YteddjcpaeoceeaaGreatDoor.Cm
open Go Go.Sx Go.Sx.Chunk
set_option linter.unusedVariables false
set_option maxRecDepth 100000
set_option linter.unusedSimpArgs false
set_option maxHeartbeats 4000000 in
theorem ifsLawC (a b : Int) (ha : inK .i32 a) (hb : inK .i32 b) : FnC (α := Unit) Tryz.prog 10 [.int .i32 a, .int .i32 b] [] [spaceV] (fun _ => .bool true) (fun _ => []) (fun _ => True) := by
  obtain ⟨n, u, h1⟩ := ifs_runC a b ha hb
  have h2 := fun z wa wc => tellsC [max a b, min a b, if a = b then 1 else 2] u n z wa wc (by simp)
  have haw := awakeC
  have hr : (-2147483648 ≤ a ∧ a ≤ 2147483647) ∧ -2147483648 ≤ b ∧ b ≤ 2147483647 := by simpa [inK, IntKind.min, IntKind.max, IntKind.signed, IntKind.bits] using And.intro ha hb
  obtain ⟨⟨hr1, hr2⟩, hr3, hr4⟩ := hr
  unfold resG resH i64C at *
  by_cases he : a = b
  · simp only [if_pos he] at h1 h2
    refine fn_intro Tryz.func10 Tryz.ntmps10 rfl rfl rfl (fun w0 => ?_)
    try simp only [List.cons_append, List.nil_append, List.append_nil]
    refine rr ?_
    intro b1 _
    refine rr ?_
    refine cl (h1 _ (by kernel_rfl) _ _) ?_
    intro z _
    try simp only [List.cons_append, List.nil_append, List.append_nil]
    refine rr ?_
    intro b2 _
    refine rr ?_
    intro b3 _
    refine rr ?_
    refine cl (h2 z _ _) ?_
    intro _ _
    try simp only [List.cons_append, List.nil_append, List.append_nil]
    refine rr ?_
    refine cl (haw) ?_
    intro _ _
    try simp only [List.cons_append, List.nil_append, List.append_nil]
    refine rr ?_
    exact en () trivial
  · simp only [if_neg he] at h1 h2
    refine fn_intro Tryz.func10 Tryz.ntmps10 rfl rfl rfl (fun w0 => ?_)
    try simp only [List.cons_append, List.nil_append, List.append_nil]
    refine rr ?_
    intro b1 _
    refine rr ?_
    refine cl (h1 _ (by kernel_rfl) _ _) ?_
    intro z _
    try simp only [List.cons_append, List.nil_append, List.append_nil]
    refine rr ?_
    intro b2 _
    refine rr ?_
    intro b3 _
    refine rr ?_
    refine cl (h2 z _ _) ?_
    intro _ _
    try simp only [List.cons_append, List.nil_append, List.append_nil]
    refine rr ?_
    refine cl (haw) ?_
    intro _ _
    try simp only [List.cons_append, List.nil_append, List.append_nil]
    refine rr ?_
    exact en () trivial
end Go.Proofs.YteddjcpaeoceeaaGreatDoor.Cm
namespace Go.Proofs.YteddjcpaeoceeaaGreatDoor.Cm
open Go Go.Sx Go.Sx.Chunk
set_option linter.unusedVariables false
set_option maxRecDepth 100000
set_option linter.unusedSimpArgs false
theorem ech_runC (l : List Int) (hl : l.length ≤ 50) (h : ∀ v ∈ l, inK .i32 v) : ∃ n u, ∀ s, s = Sc.bs echT → ∀ ia ic, FnC Tryz.prog 24 [.string s, .slice ia (l.length + 1) ic] [] [spaceV, rng ia (i64C ((l.length : Int) :: l))] (fun z => resG (1, n, l, u) z) (fun z => resH (1, n, l, u) z) (fun _ => True) := by
  obtain ⟨f1, f2, f3⟩ := fact_of ech_fact
  obtain ⟨n, u, hrun⟩ := ech_run l hl (fun v hv => w32_of (h v hv))
  refine ⟨n, u, fun s hs ia ic => ?_⟩
  subst hs
  have h1 := runLC (Sc.bs echT) (compO echT) echC 2 ia ic ((l.length : Int) :: l) (by decide +kernel) (by rw [Sc.txt_bs]; exact f1) f2 f3 (by simp; omega)
  rw [hrun] at h1
  exact h1
set_option maxHeartbeats 4000000 in
theorem ech_law (ao : Option Addr) (cap : Nat) (l : List Int) (hc : l.length ≤ cap) (hm : cap ≤ maxLen) (h : ∀ z ∈ l, inK .i32 z) : FnC (α := Unit) Tryz.prog 9 [.slice ao l.length cap] [] [rng ao (l.flatMap i32V), spaceV] (fun _ => .bool true) (fun _ => []) (fun _ => True) := by
  have haw := awakeC
  have hl : l.length ≤ maxLen := Nat.le_trans hc hm
  by_cases h50 : 50 < l.length
  · skip
    refine fn_intro Tryz.func9 Tryz.ntmps9 rfl rfl rfl (fun w0 => ?_)
    try simp only [List.cons_append, List.nil_append, List.append_nil]
    refine rr ?_
    refine cl (haw) ?_
    intro _ _
    try simp only [List.cons_append, List.nil_append, List.append_nil]
    refine rr ?_
    exact en () trivial
  obtain ⟨n, u, h1⟩ := ech_runC l (by omega) h
  have h2 := fun z wa wc => tellsC l u n z wa wc (by omega)
  unfold resG resH at *
  have hll : (l.flatMap i32V).length = l.length := by
    have h := flat_len (cells := i32V) (sz := 1) (fun _ => rfl) l
    omega
  refine fn_intro Tryz.func9 Tryz.ntmps9 rfl rfl rfl (fun w0 => ?_)
  try simp only [List.cons_append, List.nil_append, List.append_nil]
  refine rr ?_
  intro b1 _
  refine rr ?_
  refine wd_row (m := 1) (sz := 1) ?_ rfl (by unfold maxLen; omega)
  refine hv [row (some ⟨b1, 0, none⟩) 1 3 1 1 (i64C ((l.length : Int) :: l.take 0)), row none 0 3 1 0 (i64C (l.take 0)), rng ao (l.flatMap i32V), spaceV] ?_
  refine lo [14, 15] (fun z : Nat × Option Addr × Nat × Option Addr × Nat => [(3, .slice z.2.1 (z.1 + 1) z.2.2.1), (4, .slice z.2.2.2.1 z.1 z.2.2.2.2), (16, .int .i64 (z.1 : Int))]) (fun z => [(0, row z.2.1 z.2.2.1 3 1 (z.1 + 1) (i64C ((l.length : Int) :: l.take z.1))), (1, row z.2.2.2.1 z.2.2.2.2 3 1 z.1 (i64C (l.take z.1)))]) (fun z => z.1 ≤ l.length) (fun z => l.length - z.1) (0, some ⟨b1, 0, none⟩, 1, none, 0) (Nat.zero_le _) ?_
  rintro ⟨k, ia, ic, oa, oc⟩ hk K1 hK1
  dsimp only at hk ⊢
  by_cases hlt : k < l.length
  · obtain ⟨v, he⟩ := some_at hlt
    have hr : -2147483648 ≤ v ∧ v ≤ 2147483647 := by simpa [inK, IntKind.min, IntKind.max, IntKind.signed, IntKind.bits] using h v (List.mem_of_getElem? he)
    obtain ⟨hr1, hr2⟩ := hr
    have hget : (l.flatMap i32V)[(k : Int).toNat * 1]? = some (.int .i32 v) := by
      have h := flat_at (cells := i32V) (sz := 1) (fun _ => rfl) he (show 0 < 1 by decide)
      exact h
    have e1 : i64C ((l.length : Int) :: l.take (k + 1)) = i64C ((l.length : Int) :: l.take k) ++ [Value.int .i64 v] := by
      unfold i64C; rw [List.take_add_one, he]; simp
    have e2 : i64C (l.take (k + 1)) = i64C (l.take k) ++ [Value.int .i64 v] := by
      unfold i64C; rw [List.take_add_one, he]; simp
    refine w_use (fun w hw => (hw.pick 2 rfl).rng_some (by omega)) ?_
    rintro ⟨g1, rfl⟩
    refine rr ?_
    intro b2 _
    refine rr ?_
    rintro ⟨pa, pc⟩ ⟨ph, _⟩
    refine rr ?_
    intro b3 _
    refine rr ?_
    rintro ⟨qa, qc⟩ ⟨qh, _⟩
    refine rr ?_
    rw [← e1, ← e2]
    exact ro hK1 (k + 1, pa, pc, qa, qc) (by dsimp only; omega)
  · obtain rfl : k = l.length := by omega
    rw [List.take_length]
    refine rr ?_
    refine cl (h1 _ (by kernel_rfl) _ _) ?_
    intro z _
    try simp only [List.cons_append, List.nil_append, List.append_nil]
    refine rr ?_
    refine cl (h2 z _ _) ?_
    intro _ _
    try simp only [List.cons_append, List.nil_append, List.append_nil]
    refine rr ?_
    refine cl (haw) ?_
    intro _ _
    try simp only [List.cons_append, List.nil_append, List.append_nil]
    refine rr ?_
    exact en () trivial
end Go.Proofs.YteddjcpaeoceeaaGreatDoor.Cm

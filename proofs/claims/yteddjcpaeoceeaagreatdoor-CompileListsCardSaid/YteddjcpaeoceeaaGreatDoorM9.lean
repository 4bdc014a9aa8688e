/- Texts of the proof, in their order: Sm6, Sm7, Li8. -/
import Derived.Test.YteddjcpaeoceeaaGreatDoorM8
set_option linter.unusedVariables false
set_option linter.unusedSimpArgs false
namespace Go.Proofs.YteddjcpaeoceeaaGreatDoor.Cm
open Go
set_option linter.unusedVariables false
set_option maxRecDepth 100000
set_option linter.unusedSimpArgs false
def lstC : List In := [⟨17, 0, 0, 0, 1⟩, ⟨10, 29, 0, 0, 30⟩, ⟨20, 0, 0, 0, 1⟩, ⟨13, 4, 0, 0, 20⟩, ⟨12, 8, 0, 0, 21⟩, ⟨12, 9, 0, 0, 20⟩, ⟨8, 8, 8, 9, 0⟩, ⟨15, 8, 0, 0, 11⟩, ⟨20, 0, 0, 0, 1⟩, ⟨13, 4, 0, 0, 22⟩, ⟨12, 8, 0, 0, 21⟩, ⟨14, 8, 0, 0, 20⟩, ⟨12, 9, 0, 0, 22⟩, ⟨13, 9, 8, 0, 0⟩, ⟨12, 8, 0, 0, 21⟩, ⟨10, 9, 0, 0, 1⟩, ⟨1, 8, 8, 9, 0⟩, ⟨13, 8, 0, 0, 21⟩, ⟨17, 0, 0, 0, 4⟩, ⟨12, 8, 0, 0, 21⟩, ⟨10, 9, 0, 0, 0⟩, ⟨8, 8, 9, 8, 0⟩, ⟨15, 8, 0, 0, 10⟩, ⟨12, 8, 0, 0, 21⟩, ⟨10, 9, 0, 0, 1⟩, ⟨2, 8, 8, 9, 0⟩, ⟨13, 8, 0, 0, 21⟩, ⟨12, 8, 0, 0, 21⟩, ⟨14, 8, 0, 0, 20⟩, ⟨12, 8, 8, 0, 0⟩, ⟨1, 4, 8, 0, 0⟩, ⟨20, 0, 0, 0, 2⟩, ⟨17, 0, 0, 0, 19⟩, ⟨20, 0, 0, 0, 0⟩]
/-- At the head of a loop. -/
def lstS (pc : Int) (r4 r8 r9 : Int) (A : List Int) (n i x : Int) (I O : List Int) : MS := ⟨[0, 0, 0, 0, r4, 0, 0, 0, r8, r9, 0, 0, 0, 0, 0, 0, 0, 0, 0, 0, 0, 0, 0, 0, 0, 0, 0, 0, 0, 30, 0, 0], A ++ [n, i, x, 0, 0, 0, 0, 0, 0, 0], pc, I, O⟩
theorem lst_in (r4 r8 r9 x v : Int) (j n : Nat) (A I O : List Int) (hA : A.length = 20) (hj : j < n) (hn : n ≤ 30) (h20 : j < 20) (hv : w32 v = v) : ∃ a b c, Goes lstC 15 (lstS 4 r4 r8 r9 A (n : Int) (j : Int) x (v :: I) O) (lstS 4 a b c (A.set j v) (n : Int) ((j + 1 : Nat) : Int) v I O) := by
  have h0 : (j : Int) < (n : Int) := by omega
  have h1 : w32 (j : Int) = (j : Int) := w32_id (by omega)
  have h2 : w32 (n : Int) = (n : Int) := w32_id (by omega)
  have h3 : w32 ((j : Int) + 1) = (j : Int) + 1 := w32_id (by omega)
  have h4 : ¬ (20 : Int) ≤ (j : Int) := by omega
  have h5 : ¬ (30 : Int) ≤ (j : Int) := by omega
  have h6 : ¬ (j : Int) < 0 := by omega
  have w20 : w32 20 = 20 := w32_id (by decide)
  have w21 : w32 21 = 21 := w32_id (by decide)
  have w22 : w32 22 = 22 := w32_id (by decide)
  unfold lstS
  rw [Int.natCast_add, show ((1 : Nat) : Int) = 1 from rfl]
  refine ⟨?a9, ?b9, ?c9, ?d9⟩
  case d9 =>
    iterate 15 (refine Goes.more (goes1 rfl rfl (by first | rfl | assumption) (by simp [stepI, actQ, sysQ, loadQ, reckonQ, reckQ, nextQ, rgQ, setQ, w32_w32, w32_tru, truQ_t, truQ_f, w32_0, w32_1, List.getD, h0, h1, h2, h3, h4, h5, h6, hv, w20, w21, w22, hA, h20, List.getElem?_append, List.set_append]; try rfl)) ?_)
    exact Goes.rf _ _
theorem lst_out (r4 r8 r9 x v : Int) (j n : Nat) (A I O : List Int) (hA : A.length = 20) (hn : n ≤ 30) (h20 : j < 20) (hv : w32 v = v) (hAj : A[j]? = some v) (ho : O.length ≤ 1000) : ∃ a b c, Goes lstC 14 (lstS 19 r4 r8 r9 A (n : Int) ((j + 1 : Nat) : Int) x I O) (lstS 19 a b c A (n : Int) (j : Int) x I (O ++ [v])) := by
  have h0 : (0 : Int) < (j : Int) + 1 := by omega
  have h1 : w32 (j : Int) = (j : Int) := w32_id (by omega)
  have h2 : w32 (n : Int) = (n : Int) := w32_id (by omega)
  have h3 : w32 ((j : Int) + 1) = (j : Int) + 1 := w32_id (by omega)
  have h4 : ¬ (20 : Int) ≤ (j : Int) := by omega
  have h5 : ¬ (30 : Int) ≤ (j : Int) := by omega
  have h6 : ¬ (j : Int) < 0 := by omega
  have h7 : ((j : Int) + 1 - 1) = (j : Int) := by omega
  have o1 : ¬ 10000 ≤ O.length := by omega
  have hAg : ∀ h : j < A.length, A[j] = v := fun h => by rw [List.getElem?_eq_getElem h] at hAj; exact Option.some.inj hAj
  have w20 : w32 20 = 20 := w32_id (by decide)
  have w21 : w32 21 = 21 := w32_id (by decide)
  have w22 : w32 22 = 22 := w32_id (by decide)
  unfold lstS
  rw [Int.natCast_add, show ((1 : Nat) : Int) = 1 from rfl]
  refine ⟨?a8, ?b8, ?c8, ?d8⟩
  case d8 =>
    iterate 14 (refine Goes.more (goes1 rfl rfl (by first | rfl | assumption) (by simp [stepI, actQ, sysQ, loadQ, reckonQ, reckQ, nextQ, rgQ, setQ, w32_w32, w32_tru, truQ_t, truQ_f, w32_0, w32_1, List.getD, h0, h1, h2, h3, h4, h5, h6, h7, o1, hv, w20, w21, w22, hA, h20, hAj, hAg, List.getElem?_append, List.set_append]; try rfl)) ?_)
    exact Goes.rf _ _
theorem lst_start (n : Nat) (I : List Int) (hn : n ≤ 30) : Goes lstC 4 (ms0 30 ((n : Int) :: I)) (lstS 4 (n : Int) 0 0 (List.replicate 20 0) (n : Int) 0 0 I []) := by
  have h2 : w32 (n : Int) = (n : Int) := w32_id (by omega)
  have w20 : w32 20 = 20 := w32_id (by decide)
  have w30 : w32 30 = 30 := w32_id (by decide)
  rw [show ms0 30 ((n : Int) :: I) = ⟨[0, 0, 0, 0, 0, 0, 0, 0, 0, 0, 0, 0, 0, 0, 0, 0, 0, 0, 0, 0, 0, 0, 0, 0, 0, 0, 0, 0, 0, 0, 0, 0], List.replicate 20 0 ++ [0, 0, 0, 0, 0, 0, 0, 0, 0, 0], 0, (n : Int) :: I, []⟩ from rfl]
  unfold lstS
  have hA : (List.replicate 20 (0 : Int)).length = 20 := rfl
  generalize List.replicate 20 (0 : Int) = A at *
  iterate 4 (refine Goes.more (goes1 rfl rfl (by first | rfl | assumption) (by simp [stepI, actQ, sysQ, loadQ, reckonQ, reckQ, nextQ, rgQ, setQ, w32_w32, w32_tru, truQ_t, truQ_f, w32_0, w32_1, List.getD, h2, w20, w30, hA, List.getElem?_append, List.set_append]; try rfl)) ?_)
  exact Goes.rf _ _
theorem lst_mid (r4 r8 r9 x : Int) (n : Nat) (A I O : List Int) (hA : A.length = 20) (hn : n ≤ 30) : ∃ a b c, Goes lstC 4 (lstS 4 r4 r8 r9 A (n : Int) (n : Int) x I O) (lstS 19 a b c A (n : Int) (n : Int) x I O) := by
  have h2 : w32 (n : Int) = (n : Int) := w32_id (by omega)
  have w20 : w32 20 = 20 := w32_id (by decide)
  have w21 : w32 21 = 21 := w32_id (by decide)
  unfold lstS
  refine ⟨?a7, ?b7, ?c7, ?d7⟩
  case d7 =>
    iterate 4 (refine Goes.more (goes1 rfl rfl (by first | rfl | assumption) (by simp [stepI, actQ, sysQ, loadQ, reckonQ, reckQ, nextQ, rgQ, setQ, w32_w32, w32_tru, truQ_t, truQ_f, w32_0, w32_1, List.getD, h2, w20, w21, hA, List.getElem?_append, List.set_append]; try rfl)) ?_)
    exact Goes.rf _ _
theorem lst_end (r4 r8 r9 x n : Int) (A I O : List Int) (hA : A.length = 20) : ∃ m, Goes lstC 4 (lstS 19 r4 r8 r9 A n 0 x I O) m ∧ Stops lstC m 1 O := by
  have w21 : w32 21 = 21 := w32_id (by decide)
  unfold lstS
  refine ⟨?m6, ?a6, ?b6⟩
  case a6 =>
    iterate 4 (refine Goes.more (goes1 rfl rfl (by first | rfl | assumption) (by simp [stepI, actQ, sysQ, loadQ, reckonQ, reckQ, nextQ, rgQ, setQ, w32_w32, w32_tru, truQ_t, truQ_f, w32_0, w32_1, List.getD, w21, hA, List.getElem?_append, List.set_append]; try rfl)) ?_)
    exact Goes.rf _ _
  exact fun f hf => ⟨_, stop1 rfl rfl rfl (by simp [stepI, actQ, sysQ, loadQ, reckonQ, reckQ, nextQ, rgQ, setQ, w32_w32, w32_tru, truQ_t, truQ_f, w32_0, w32_1, List.getD]; try rfl) (by decide) hf, rfl⟩
theorem lst_trap (r4 r8 r9 x v : Int) (n : Nat) (A I O : List Int) (hA : A.length = 20) (hn : 20 < n) (hn2 : n ≤ 30) (hv : w32 v = v) : ∃ m, Goes lstC 7 (lstS 4 r4 r8 r9 A (n : Int) ((20 : Nat) : Int) x (v :: I) O) m ∧ Stops lstC m 5 O := by
  have h0 : (20 : Int) < (n : Int) := by omega
  have h2 : w32 (n : Int) = (n : Int) := w32_id (by omega)
  have w20 : w32 20 = 20 := w32_id (by decide)
  have w21 : w32 21 = 21 := w32_id (by decide)
  have w22 : w32 22 = 22 := w32_id (by decide)
  unfold lstS
  rw [show ((20 : Nat) : Int) = 20 from rfl]
  refine ⟨?m5, ?a5, ?b5⟩
  case a5 =>
    iterate 7 (refine Goes.more (goes1 rfl rfl (by first | rfl | assumption) (by simp [stepI, actQ, sysQ, loadQ, reckonQ, reckQ, nextQ, rgQ, setQ, w32_w32, w32_tru, truQ_t, truQ_f, w32_0, w32_1, List.getD, h0, h2, hv, w20, w21, w22, hA, List.getElem?_append, List.set_append]; try rfl)) ?_)
    exact Goes.rf _ _
  exact fun f hf => ⟨_, stop1 rfl rfl rfl (by simp [stepI, actQ, sysQ, loadQ, reckonQ, reckQ, nextQ, rgQ, setQ, w32_w32, w32_tru, truQ_t, truQ_f, w32_0, w32_1, List.getD]; try rfl) (by decide) hf, rfl⟩
end Go.Proofs.YteddjcpaeoceeaaGreatDoor.Cm
namespace Go.Proofs.YteddjcpaeoceeaaGreatDoor.Cm
open Go
set_option linter.unusedVariables false
set_option maxRecDepth 100000
set_option linter.unusedSimpArgs false
/-- The list's cells: what was read, and naughts. -/
def padL (l : List Int) : List Int := l ++ List.replicate (20 - l.length) 0
theorem padL_len {l : List Int} (h : l.length ≤ 20) : (padL l).length = 20 := by
  unfold padL; simp; omega
theorem padL_set {l : List Int} {v : Int} (h : l.length < 20) : (padL l).set l.length v = padL (l ++ [v]) := by
  unfold padL
  obtain ⟨m, hm⟩ : ∃ m, 20 - l.length = m + 1 := ⟨20 - l.length - 1, by omega⟩
  rw [hm, List.replicate_succ, List.set_append_right _ _ (Nat.le_refl _), Nat.sub_self, List.set_cons_zero, List.length_append, List.length_singleton, show 20 - (l.length + 1) = m by omega, List.append_assoc]
  rfl
theorem padL_get {l : List Int} {j : Nat} (h : j < l.length) : (padL l)[j]? = l[j]? := List.getElem?_append_left h
theorem lst_ins (n : Nat) (hn : n ≤ 30) : ∀ (l2 l1 I : List Int) (r4 r8 r9 x : Int), l1.length + l2.length ≤ n → l1.length + l2.length ≤ 20 → (∀ v ∈ l2, w32 v = v) → ∃ a b c y, Goes lstC (15 * l2.length) (lstS 4 r4 r8 r9 (padL l1) (n : Int) (l1.length : Int) x (l2 ++ I) []) (lstS 4 a b c (padL (l1 ++ l2)) (n : Int) (((l1 ++ l2).length : Nat) : Int) y I [])
  | [], l1, I, r4, r8, r9, x, _, _, _ => ⟨r4, r8, r9, x, by rw [List.append_nil]; exact Goes.rf _ _⟩
  | v :: l2, l1, I, r4, r8, r9, x, h1, h2, h3 => by
    simp only [List.length_cons] at h1 h2
    obtain ⟨a, b, c, hr⟩ := lst_in r4 r8 r9 x v l1.length n (padL l1) (l2 ++ I) [] (padL_len (by omega)) (by omega) hn (by omega) (h3 v (by simp))
    rw [padL_set (by omega)] at hr
    obtain ⟨a2, b2, c2, y, hl⟩ := lst_ins n hn l2 (l1 ++ [v]) I a b c v (by simp; omega) (by simp; omega) (fun u hu => h3 u (by simp [hu]))
    rw [List.append_assoc, List.singleton_append, show (l1 ++ [v]).length = l1.length + 1 by simp] at hl
    exact ⟨a2, b2, c2, y, hr.tr hl (by rw [List.length_cons]; omega)⟩
theorem lst_outs (l : List Int) (n : Nat) (x : Int) (I : List Int) (hl : l.length ≤ 20) (hn : n ≤ 30) (hw : ∀ v ∈ l, w32 v = v) : ∀ (j : Nat) (r4 r8 r9 : Int) (O : List Int), j ≤ l.length → O.length + j ≤ 1000 → ∃ a b c, Goes lstC (14 * j) (lstS 19 r4 r8 r9 (padL l) (n : Int) (j : Int) x I O) (lstS 19 a b c (padL l) (n : Int) 0 x I (O ++ (l.take j).reverse))
  | 0, r4, r8, r9, O, _, _ => ⟨r4, r8, r9, by rw [List.take_zero, List.reverse_nil, List.append_nil]; exact Goes.rf _ _⟩
  | j + 1, r4, r8, r9, O, h1, h2 => by
    obtain ⟨v, hv⟩ : ∃ v, l[j]? = some v := ⟨_, List.getElem?_eq_getElem (by omega)⟩
    obtain ⟨a, b, c, hr⟩ := lst_out r4 r8 r9 x v j n (padL l) I O (padL_len hl) hn (by omega) (hw v (List.mem_of_getElem? hv)) (by rw [padL_get (by omega)]; exact hv) (by omega)
    obtain ⟨a2, b2, c2, hl2⟩ := lst_outs l n x I hl hn hw j a b c (O ++ [v]) (by omega) (by simp; omega)
    have e : O ++ (l.take (j + 1)).reverse = O ++ [v] ++ (l.take j).reverse := by
      rw [List.take_add_one, hv]; simp
    rw [e]
    exact ⟨a2, b2, c2, hr.tr hl2 (by omega)⟩
theorem lst_run (l : List Int) (hl : l.length ≤ 20) (h : ∀ v ∈ l, w32 v = v) : ∃ n u, seqQ lstC 30 ((l.length : Int) :: l) 5000 = (1, n, l.reverse, u) := by
  obtain ⟨a, b, c, y, h1⟩ := lst_ins l.length (by omega) l [] [] (l.length : Int) 0 0 0 (by simp) (by simpa using hl) h
  rw [List.append_nil, List.nil_append] at h1
  obtain ⟨a2, b2, c2, h2⟩ := lst_mid a b c y l.length (padL l) [] [] (padL_len hl) (by omega)
  obtain ⟨a3, b3, c3, h3⟩ := lst_outs l l.length y [] hl (by omega) h l.length a2 b2 c2 [] (Nat.le_refl _) (by simp; omega)
  rw [List.take_length, List.nil_append] at h3
  obtain ⟨m, h4, h5⟩ := lst_end a3 b3 c3 y (l.length : Int) (padL l) [] l.reverse (padL_len hl)
  have h6 := ((((lst_start l.length l (by omega)).tr h1 rfl).tr h2 rfl).tr h3 rfl).tr h4 rfl
  exact seq_ex (n := 30) (fuel := 5000) (by decide) (by decide) h6 h5 (by omega)
theorem lst_long (l : List Int) (hl : 20 < l.length) (hl2 : l.length ≤ 30) (h : ∀ v ∈ l, w32 v = v) : ∃ n u, seqQ lstC 30 ((l.length : Int) :: l) 5000 = (5, n, [], u) := by
  have ht : (l.take 20).length = 20 := by rw [List.length_take]; omega
  have hs : l = l.take 20 ++ l.drop 20 := (List.take_append_drop 20 l).symm
  obtain ⟨v, I, hI⟩ : ∃ v I, l.drop 20 = v :: I := by
    cases hd : l.drop 20 with
    | nil =>
      have := congrArg List.length hd
      rw [List.length_drop, List.length_nil] at this; omega
    | cons v I => exact ⟨v, I, rfl⟩
  have hv : w32 v = v := h v (List.mem_of_mem_drop (by rw [hI]; simp))
  obtain ⟨a, b, c, y, h1⟩ := lst_ins l.length hl2 (l.take 20) [] (v :: I) (l.length : Int) 0 0 0 (by rw [ht, List.length_nil]; omega) (by rw [ht, List.length_nil]; omega) (fun u hu => h u (List.mem_of_mem_take hu))
  rw [List.nil_append, ht, ← hI, List.take_append_drop, hI] at h1
  obtain ⟨m, h4, h5⟩ := lst_trap a b c y v l.length (padL (l.take 20)) I [] (padL_len (by omega)) hl hl2 hv
  have h6 := ((lst_start l.length l hl2).tr h1 rfl).tr h4 rfl
  exact seq_ex (n := 30) (fuel := 5000) (by decide) (by decide) h6 h5 (by decide)
end Go.Proofs.YteddjcpaeoceeaaGreatDoor.Cm
namespace Go.Proofs.YteddjcpaeoceeaaGreatDoor.Cm
open Go Go.Sx Go.Sx.Chunk
set_option linter.unusedVariables false
set_option maxRecDepth 100000
set_option linter.unusedSimpArgs false
theorem lst_fact : factB lstT 30 lstC 23 = true := by decide +kernel
set_option maxHeartbeats 8000000 in
theorem lst_law (ao : Option Addr) (cap : Nat) (l : List Int) (hc : l.length ≤ cap) (hm : cap ≤ maxLen) (h : ∀ z ∈ l, inK .i32 z) : FnC (α := Unit) Tryz.prog 7 [.slice ao l.length cap] [] [rng ao (l.flatMap i32V), spaceV] (fun _ => .bool true) (fun _ => []) (fun _ => True) := by
  have haw := awakeC
  have hl : l.length ≤ maxLen := Nat.le_trans hc hm
  by_cases h30 : 30 < l.length
  · skip
    refine fn_intro Tryz.func7 Tryz.ntmps7 rfl rfl rfl (fun w0 => ?_)
    try simp only [List.cons_append, List.nil_append, List.append_nil]
    refine rr ?_
    refine cl (haw) ?_
    intro _ _
    try simp only [List.cons_append, List.nil_append, List.append_nil]
    refine rr ?_
    exact en () trivial
  have hw : ∀ v ∈ l, w32 v = v := fun v hv => w32_of (h v hv)
  have h1 := fun s hs => compT lst_fact s hs (by decide)
  have h2 := fun c x => linkT lst_fact c x
  obtain ⟨t, n, out, u, hrun, ht⟩ : ∃ t n out u, seqQ lstC 30 ((l.length : Int) :: l) 5000 = (t, n, out, u) ∧ ((20 < l.length ∧ t = 5 ∧ out = []) ∨ (¬ 20 < l.length ∧ t = 1 ∧ out = l.reverse)) := by
    by_cases h20 : 20 < l.length
    · obtain ⟨n, u, hr⟩ := lst_long l h20 (by omega) hw
      exact ⟨_, n, _, u, hr, .inl ⟨h20, rfl, rfl⟩⟩
    · obtain ⟨n, u, hr⟩ := lst_run l (by omega) hw
      exact ⟨_, n, _, u, hr, .inr ⟨h20, rfl, rfl⟩⟩
  have h3 := fun ca cc ia ic => runC ca cc lstC 30 ia ic ((l.length : Int) :: l) 5000 (by decide) (by simp; omega)
  rw [hrun] at h3
  generalize compO lstT = o at *
  unfold linkV at h2
  unfold o6G o6H at h1
  unfold o6H o6V at h2
  unfold resG resH at h3
  dsimp only [List.length_cons] at h1 h2 h3
  generalize lstC = code at *
  clear hrun
  have hll : (l.flatMap i32V).length = l.length := by
    have h := flat_len (cells := i32V) (sz := 1) (fun _ => rfl) l
    omega
  refine fn_intro Tryz.func7 Tryz.ntmps7 rfl rfl rfl (fun w0 => ?_)
  try simp only [List.cons_append, List.nil_append, List.append_nil]
  refine rr ?_
  refine cl (h1 _ (by kernel_rfl)) ?_
  intro x _
  try simp only [List.cons_append, List.nil_append, List.append_nil]
  refine rr ?_
  intro b1 _
  refine rr ?_
  intro b2 _
  refine rr ?_
  refine cl (h2 b2 x) ?_
  intro z _
  try simp only [List.cons_append, List.nil_append, List.append_nil]
  refine rr ?_
  intro b3 _
  refine rr ?_
  intro b4 _
  refine rr ?_
  refine wd_row (m := 1) (sz := 1) ?_ rfl (by unfold maxLen; omega)
  refine lo [0, 6, 7, 8, 34, 35] (fun z : Nat × Option Addr × Nat => [(9, .slice z.2.1 (z.1 + 1) z.2.2), (36, .int .i64 (z.1 : Int))]) (fun z => [(0, row z.2.1 z.2.2 3 1 (z.1 + 1) (i64C ((l.length : Int) :: l.take z.1)))]) (fun z => z.1 ≤ l.length) (fun z => l.length - z.1) (0, some ⟨b4, 0, none⟩, 1) (Nat.zero_le _) ?_
  rintro ⟨k, ia, ic⟩ hk K1 hK1
  dsimp only at hk ⊢
  by_cases hlt : k < l.length
  · obtain ⟨v, he⟩ := some_at hlt
    have hr : -2147483648 ≤ v ∧ v ≤ 2147483647 := by simpa [inK, IntKind.min, IntKind.max, IntKind.signed, IntKind.bits] using h v (List.mem_of_getElem? he)
    obtain ⟨hr1, hr2⟩ := hr
    have hget : (l.flatMap i32V)[(k : Int).toNat * 1]? = some (.int .i32 v) := by
      have h := flat_at (cells := i32V) (sz := 1) (fun _ => rfl) he (show 0 < 1 by decide)
      exact h
    have e1 : i64C ((l.length : Int) :: l.take (k + 1)) = i64C ((l.length : Int) :: l.take k) ++ [Value.int .i64 v] := by
      unfold i64C; rw [List.take_add_one, he]; simp
    refine w_use (fun w hw => (hw.pick 9 rfl).rng_some (by omega)) ?_
    rintro ⟨g1, rfl⟩
    refine rr ?_
    intro b5 _
    refine rr ?_
    rintro ⟨pa, pc⟩ ⟨ph, _⟩
    refine rr ?_
    rw [← e1]
    exact ro hK1 (k + 1, pa, pc) (by dsimp only; omega)
  obtain rfl : k = l.length := by omega
  rw [List.take_length]
  rcases ht with ⟨h20, rfl, rfl⟩ | ⟨h20, rfl, rfl⟩
  · skip
    refine rr ?_
    refine cl (h3 z.1 z.2 _ _) ?_
    intro ⟨y1, y2, y3, y4⟩ _
    try simp only [List.cons_append, List.nil_append, List.append_nil]
    refine rr ?_
    intro b6 _
    refine rr ?_
    refine cl (haw) ?_
    intro _ _
    try simp only [List.cons_append, List.nil_append, List.append_nil]
    refine rr ?_
    exact en () trivial
  have hR : l.reverse.length = l.length := List.length_reverse
  have hRg : ∀ k v, l.reverse[k]? = some v → l[l.length - 1 - k]? = some v := fun k v hv => by
    rw [List.getElem?_reverse (by rw [← hR]; exact (List.getElem?_eq_some_iff.1 hv).1)] at hv
    exact hv
  generalize l.reverse = W at *
  rw [hR] at h3
  refine rr ?_
  refine cl (h3 z.1 z.2 _ _) ?_
  intro ⟨y1, y2, y3, y4⟩ _
  try simp only [List.cons_append, List.nil_append, List.append_nil]
  refine rr ?_
  intro b6 _
  refine rr ?_
  refine lo [0, 83, 84] (fun k : Nat => [(85, .int .i64 (k : Int))]) (fun k => []) (fun k => k ≤ l.length) (fun k => l.length - k) 0 (Nat.zero_le _) ?_
  intro k hk2 K2 hK2
  try dsimp only at hk2 ⊢
  by_cases hlt2 : k < l.length
  · obtain ⟨v, hvk⟩ := some_at (l := W) (k := k) (by omega)
    have hlv := hRg k v hvk
    have hr : -2147483648 ≤ v ∧ v ≤ 2147483647 := by simpa [inK, IntKind.min, IntKind.max, IntKind.signed, IntKind.bits] using h v (List.mem_of_getElem? hlv)
    obtain ⟨hr1, hr2⟩ := hr
    have hget : (i64C W)[(k : Int).toNat * 1]? = some (.int .i64 v) := by rw [show (k : Int).toNat * 1 = k by omega]; exact i64C_get hvk
    have hget2 : (l.flatMap i32V)[((l.length : Int) - 1 - (k : Int)).toNat * 1]? = some (.int .i32 v) := by
      have h := flat_at (cells := i32V) (sz := 1) (fun _ => rfl) hlv (show 0 < 1 by decide)
      rw [show ((l.length : Int) - 1 - (k : Int)).toNat * 1 = (l.length - 1 - k) * 1 + 0 by omega]
      exact h
    refine rr ?_
    exact ro hK2 (k + 1) (by omega)
  · obtain rfl : k = l.length := by omega
    refine rr ?_
    refine cl (haw) ?_
    intro _ _
    try simp only [List.cons_append, List.nil_append, List.append_nil]
    refine rr ?_
    exact en () trivial
end Go.Proofs.YteddjcpaeoceeaaGreatDoor.Cm

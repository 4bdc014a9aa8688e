/- Texts of the proof, in their order: Cr5, Sm8, Sm9, Sma, Smb, Li9. -/
import Derived.Test.YteddjcpaeoceeaaGreatDoorM8
set_option linter.unusedVariables false
set_option linter.unusedSimpArgs false
namespace Go.Proofs.YteddjcpaeoceeaaGreatDoor.Cm
open Go
set_option linter.unusedVariables false
set_option maxRecDepth 100000
set_option linter.unusedSimpArgs false
def calC (mem : Int) : List In := [⟨17, 0, 0, 0, 24⟩, ⟨10, 29, 29, 0, -3⟩, ⟨10, 1, 29, 0, -1⟩, ⟨14, 1, 7, 0, 32767⟩, ⟨13, 31, 29, 0, 0⟩, ⟨13, 30, 29, 0, 1⟩, ⟨10, 30, 29, 0, 0⟩, ⟨13, 4, 30, 0, 2⟩, ⟨12, 8, 30, 0, 2⟩, ⟨10, 9, 0, 0, 0⟩, ⟨8, 8, 9, 8, 0⟩, ⟨15, 8, 0, 0, 5⟩, ⟨12, 8, 30, 0, 2⟩, ⟨10, 9, 0, 0, 1⟩, ⟨2, 8, 8, 9, 0⟩, ⟨1, 4, 8, 0, 0⟩, ⟨18, 0, 0, 0, 1⟩, ⟨12, 8, 30, 0, 2⟩, ⟨1, 4, 8, 0, 0⟩, ⟨20, 0, 0, 0, 2⟩, ⟨10, 29, 30, 0, 3⟩, ⟨12, 31, 30, 0, 0⟩, ⟨12, 30, 30, 0, 1⟩, ⟨19, 31, 0, 0, 0⟩, ⟨10, 29, 0, 0, mem⟩, ⟨20, 0, 0, 0, 1⟩, ⟨13, 4, 0, 0, 0⟩, ⟨12, 8, 0, 0, 0⟩, ⟨1, 4, 8, 0, 0⟩, ⟨18, 0, 0, 0, 1⟩, ⟨20, 0, 0, 0, 0⟩]
theorem cal_fact : ∀ k : Fin 400, factB calT ((k.val : Int) + 1) (calC ((k.val : Int) + 1)) 1 = true := by decide +kernel
end Go.Proofs.YteddjcpaeoceeaaGreatDoor.Cm
namespace Go.Proofs.YteddjcpaeoceeaaGreatDoor.Cm
open Go
set_option linter.unusedVariables false
set_option maxRecDepth 100000
set_option linter.unusedSimpArgs false
def calS (pc r1 r4 r8 r9 sp fp ra : Int) (M I O : List Int) : MS := ⟨[0, r1, 0, 0, r4, 0, 0, 0, r8, r9, 0, 0, 0, 0, 0, 0, 0, 0, 0, 0, 0, 0, 0, 0, 0, 0, 0, 0, 0, sp, fp, ra], M, pc, I, O⟩
set_option maxHeartbeats 1000000 in
theorem cal_down (mem : Int) (r1 r8 r9 fp ra : Int) (s n : Nat) (M I O : List Int) (hs : s + 3 ≤ M.length) (hM : M.length ≤ 400) (h1 : 1 ≤ s) (hn : n ≤ 255) (hf : w32 fp = fp) (hr : w32 ra = ra) : ∃ a b c, Goes (calC mem) 16 (calS 1 r1 ((n + 1 : Nat) : Int) r8 r9 ((s : Int) + 3) fp ra M I O) (calS 1 a (n : Int) b c (s : Int) (s : Int) 17 (((M.set s ra).set (s + 1) fp).set (s + 2) ((n : Int) + 1)) I O) := by
  have w1 : w32 ((s : Int) + 3) = (s : Int) + 3 := w32_id (by omega)
  have w2 : w32 (s : Int) = (s : Int) := w32_id (by omega)
  have w3 : w32 ((s : Int) + 1) = (s : Int) + 1 := w32_id (by omega)
  have w4 : w32 ((s : Int) + 2) = (s : Int) + 2 := w32_id (by omega)
  have w5 : w32 ((s : Int) + -1) = (s : Int) + -1 := w32_id (by omega)
  have w6 : w32 ((n : Int) + 1) = (n : Int) + 1 := w32_id (by omega)
  have w7 : w32 (n : Int) = (n : Int) := w32_id (by omega)
  have w17 : w32 17 = 17 := w32_id (by decide)
  have e1 : (s : Int) + 3 + -3 = (s : Int) := by omega
  have e2 : (n : Int) + 1 - 1 = (n : Int) := by omega
  have e3 : (0 : Int) < (n : Int) + 1 := by omega
  have c1 : ¬ (s : Int) + -1 < 0 := by omega
  have c2 : ¬ (32767 : Int) ≤ (s : Int) + -1 := by omega
  have c3 : ¬ (s : Int) < 0 := by omega
  have c4 : ¬ (s : Int) + 1 < 0 := by omega
  have c5 : ¬ (s : Int) + 2 < 0 := by omega
  have d1 : ¬ (M.length : Int) ≤ (s : Int) := by omega
  have d2 : ¬ (M.length : Int) ≤ (s : Int) + 1 := by omega
  have d3 : ¬ (M.length : Int) ≤ (s : Int) + 2 := by omega
  have t1 : ((s : Int) + 1).toNat = s + 1 := by omega
  have t2 : ((s : Int) + 2).toNat = s + 2 := by omega
  have l2 : s + 2 < M.length := by omega
  unfold calS
  rw [Int.natCast_add, show ((1 : Nat) : Int) = 1 from rfl]
  refine ⟨?a1, ?b1, ?c1, ?d1⟩
  case d1 =>
    iterate 16 (refine Goes.more (goes1 rfl rfl (by first | rfl | assumption) (by simp [stepI, actQ, sysQ, loadQ, reckonQ, reckQ, nextQ, rgQ, setQ, w32_w32, w32_tru, truQ_t, truQ_f, w32_0, w32_1, List.getD, w1, w2, w3, w4, w5, w6, w7, w17, e1, e2, e3, c1, c2, c3, c4, c5, d1, d2, d3, t1, t2, l2, hf, hr]; try rfl)) ?_)
    exact Goes.rf _ _
set_option maxHeartbeats 1000000 in
theorem cal_back (mem : Int) (r1 r4 r8 r9 sp ra' fp ra : Int) (s n : Nat) (M I O : List Int) (hs : s + 3 ≤ M.length) (hM : M.length ≤ 400) (hn : n ≤ 255) (hf : w32 fp = fp) (hr : w32 ra = ra) (m0 : M[s]? = some ra) (m1 : M[s + 1]? = some fp) (m2 : M[s + 2]? = some (n : Int)) (ho : O.length ≤ 1000) : ∃ a b c, Goes (calC mem) 7 (calS 17 r1 r4 r8 r9 sp (s : Int) ra' M I O) (calS ra a b c r9 ((s : Int) + 3) fp ra M I (O ++ [(n : Int)])) := by
  have w1 : w32 ((s : Int) + 3) = (s : Int) + 3 := w32_id (by omega)
  have w2 : w32 (s : Int) = (s : Int) := w32_id (by omega)
  have w3 : w32 ((s : Int) + 1) = (s : Int) + 1 := w32_id (by omega)
  have w4 : w32 ((s : Int) + 2) = (s : Int) + 2 := w32_id (by omega)
  have w7 : w32 (n : Int) = (n : Int) := w32_id (by omega)
  have c3 : ¬ (s : Int) < 0 := by omega
  have c4 : ¬ (s : Int) + 1 < 0 := by omega
  have c5 : ¬ (s : Int) + 2 < 0 := by omega
  have o1 : ¬ 10000 ≤ O.length := by omega
  have t1 : ((s : Int) + 1).toNat = s + 1 := by omega
  have t2 : ((s : Int) + 2).toNat = s + 2 := by omega
  have l0 : s < M.length := by omega
  have l1 : s + 1 < M.length := by omega
  have l2 : s + 2 < M.length := by omega
  have g0 : ∀ h : s < M.length, M[s] = ra := fun h => by rw [List.getElem?_eq_getElem h] at m0; exact Option.some.inj m0
  have g1 : ∀ h : s + 1 < M.length, M[s + 1] = fp := fun h => by rw [List.getElem?_eq_getElem h] at m1; exact Option.some.inj m1
  have g2 : ∀ h : s + 2 < M.length, M[s + 2] = (n : Int) := fun h => by rw [List.getElem?_eq_getElem h] at m2; exact Option.some.inj m2
  unfold calS
  refine ⟨?a2, ?b2, ?c2, ?d2⟩
  case d2 =>
    iterate 7 (refine Goes.more (goes1 rfl rfl (by first | rfl | assumption) (by simp [stepI, actQ, sysQ, loadQ, reckonQ, reckQ, nextQ, rgQ, setQ, w32_w32, w32_tru, truQ_t, truQ_f, w32_0, w32_1, List.getD, w1, w2, w3, w4, w7, c3, c4, c5, o1, t1, t2, hf, hr, m0, m1, m2, g0, g1, g2, l0, l1, l2]; try rfl)) ?_)
    exact Goes.rf _ _
set_option maxHeartbeats 1000000 in
theorem cal_last (mem : Int) (r1 r8 r9 fp ra : Int) (s : Nat) (M I O : List Int) (hs : s + 3 ≤ M.length) (hM : M.length ≤ 400) (h1 : 1 ≤ s) (hf : w32 fp = fp) (hr : w32 ra = ra) : ∃ a b c d, Goes (calC mem) 11 (calS 1 r1 0 r8 r9 ((s : Int) + 3) fp ra M I O) (calS 17 a d b c (s : Int) (s : Int) ra (((M.set s ra).set (s + 1) fp).set (s + 2) 0) I O) := by
  have w1 : w32 ((s : Int) + 3) = (s : Int) + 3 := w32_id (by omega)
  have w2 : w32 (s : Int) = (s : Int) := w32_id (by omega)
  have w3 : w32 ((s : Int) + 1) = (s : Int) + 1 := w32_id (by omega)
  have w4 : w32 ((s : Int) + 2) = (s : Int) + 2 := w32_id (by omega)
  have w5 : w32 ((s : Int) + -1) = (s : Int) + -1 := w32_id (by omega)
  have e1 : (s : Int) + 3 + -3 = (s : Int) := by omega
  have c1 : ¬ (s : Int) + -1 < 0 := by omega
  have c2 : ¬ (32767 : Int) ≤ (s : Int) + -1 := by omega
  have c3 : ¬ (s : Int) < 0 := by omega
  have c4 : ¬ (s : Int) + 1 < 0 := by omega
  have c5 : ¬ (s : Int) + 2 < 0 := by omega
  have d1 : ¬ (M.length : Int) ≤ (s : Int) := by omega
  have d2 : ¬ (M.length : Int) ≤ (s : Int) + 1 := by omega
  have d3 : ¬ (M.length : Int) ≤ (s : Int) + 2 := by omega
  have t1 : ((s : Int) + 1).toNat = s + 1 := by omega
  have t2 : ((s : Int) + 2).toNat = s + 2 := by omega
  have l2 : s + 2 < M.length := by omega
  unfold calS
  refine ⟨?a3, ?b3, ?c3, ?e3, ?d3⟩
  case d3 =>
    iterate 11 (refine Goes.more (goes1 rfl rfl (by first | rfl | assumption) (by simp [stepI, actQ, sysQ, loadQ, reckonQ, reckQ, nextQ, rgQ, setQ, w32_w32, w32_tru, truQ_t, truQ_f, w32_0, w32_1, List.getD, w1, w2, w3, w4, w5, e1, c1, c2, c3, c4, c5, d1, d2, d3, t1, t2, l2, hf, hr]; try rfl)) ?_)
    exact Goes.rf _ _
theorem cal_trap (mem : Int) (r1 r4 r8 r9 fp ra sp : Int) (M I O : List Int) (hs : 0 ≤ sp ∧ sp ≤ 3) : ∃ m, Goes (calC mem) 2 (calS 1 r1 r4 r8 r9 sp fp ra M I O) m ∧ Stops (calC mem) m 7 O := by
  have w1 : w32 (sp + -3) = sp + -3 := w32_id (by omega)
  have w2 : w32 (sp + -3 + -1) = sp + -3 + -1 := w32_id (by omega)
  have w3 : w32 sp = sp := w32_id (by omega)
  have c1 : sp + -3 + -1 < 0 := by omega
  unfold calS
  refine ⟨?m4, ?a4, ?b4⟩
  case a4 =>
    iterate 2 (refine Goes.more (goes1 rfl rfl (by first | rfl | assumption) (by simp [stepI, actQ, sysQ, loadQ, reckonQ, reckQ, nextQ, rgQ, setQ, w32_w32, w32_tru, truQ_t, truQ_f, w32_0, w32_1, List.getD, w1, w2, w3, c1]; try rfl)) ?_)
    exact Goes.rf _ _
  exact fun f hf => ⟨_, stop1 rfl rfl rfl (by simp [stepI, actQ, sysQ, loadQ, reckonQ, reckQ, nextQ, rgQ, setQ, w32_w32, w32_tru, truQ_t, truQ_f, w32_0, w32_1, List.getD, c1]; try rfl) (by decide) hf, rfl⟩
end Go.Proofs.YteddjcpaeoceeaaGreatDoor.Cm
namespace Go.Proofs.YteddjcpaeoceeaaGreatDoor.Cm
open Go
set_option linter.unusedVariables false
set_option maxRecDepth 100000
set_option linter.unusedSimpArgs false
def upL (n : Nat) : List Int := (List.range (n + 1)).map fun i : Nat => (i : Int)
theorem upL_s (n : Nat) : upL (n + 1) = upL n ++ [((n + 1 : Nat) : Int)] := by
  unfold upL
  rw [List.range_succ, List.map_append]
  rfl
theorem cal_call (mem : Int) (I : List Int) : ∀ (n sp : Nat) (r1 r8 r9 fp ra : Int) (M O : List Int), 3 * (n + 1) + 1 ≤ sp → sp ≤ M.length → M.length ≤ 400 → n ≤ 255 → w32 fp = fp → w32 ra = ra → O.length + n + 1 ≤ 1000 →
    ∃ M' a b c d, Goes (calC mem) (23 * n + 18) (calS 1 r1 (n : Int) r8 r9 (sp : Int) fp ra M I O) (calS ra a b c d (sp : Int) fp ra M' I (O ++ upL n)) ∧ M'.length = M.length ∧ ∀ i, sp ≤ i → M'[i]? = M[i]?
  | 0, sp, r1, r8, r9, fp, ra, M, O, h1, h2, h3, h4, h5, h6, h7 => by
    obtain ⟨s, rfl⟩ : ∃ s, sp = s + 3 := ⟨sp - 3, by omega⟩
    obtain ⟨a, b, c, d, hg⟩ := cal_last mem r1 r8 r9 fp ra s M I O h2 h3 (by omega) h5 h6
    generalize hM1 : ((M.set s ra).set (s + 1) fp).set (s + 2) 0 = M1 at hg
    have hl : M1.length = M.length := by rw [← hM1]; simp
    obtain ⟨a2, b2, c2, hb⟩ := cal_back mem a d b c (s : Int) ra fp ra s 0 M1 I O (by omega) (by omega) (by omega) h5 h6
      (by rw [← hM1]; simp [List.getElem?_set]; omega) (by rw [← hM1]; simp [List.getElem?_set]; omega) (by rw [← hM1]; simp [List.getElem?_set]; omega) (by omega)
    refine ⟨M1, a2, b2, c2, c, ?_, hl, fun i hi => ?_⟩
    · exact hg.tr hb (n := 23 * 0 + 18) (by omega)
    · rw [← hM1]
      rw [List.getElem?_set_ne (by omega), List.getElem?_set_ne (by omega), List.getElem?_set_ne (by omega)]
  | n + 1, sp, r1, r8, r9, fp, ra, M, O, h1, h2, h3, h4, h5, h6, h7 => by
    obtain ⟨s, rfl⟩ : ∃ s, sp = s + 3 := ⟨sp - 3, by omega⟩
    obtain ⟨a, b, c, hg⟩ := cal_down mem r1 r8 r9 fp ra s n M I O h2 h3 (by omega) (by omega) h5 h6
    generalize hM1 : ((M.set s ra).set (s + 1) fp).set (s + 2) ((n : Int) + 1) = M1 at hg
    have hl : M1.length = M.length := by rw [← hM1]; simp
    obtain ⟨M2, a2, b2, c2, d2, hc, hl2, hi2⟩ := cal_call mem I n s a b c (s : Int) 17 M1 O (by omega) (by omega) (by omega) (by omega) (w32_id (by omega)) (w32_id (by decide)) (by omega)
    have hul : (upL n).length = n + 1 := by unfold upL; simp
    obtain ⟨a3, b3, c3, hb⟩ := cal_back mem a2 b2 c2 d2 (s : Int) 17 fp ra s (n + 1) M2 I (O ++ upL n) (by omega) (by omega) (by omega) h5 h6
      (by rw [hi2 s (Nat.le_refl _), ← hM1]; simp [List.getElem?_set]; omega) (by rw [hi2 (s + 1) (by omega), ← hM1]; simp [List.getElem?_set]; omega) (by rw [hi2 (s + 2) (by omega), ← hM1]; simp [List.getElem?_set]; omega) (by rw [List.length_append]; omega)
    refine ⟨M2, a3, b3, c3, d2, ?_, by omega, fun i hi => ?_⟩
    · rw [upL_s, ← List.append_assoc]
      exact (hg.tr hc rfl).tr hb (by omega)
    · rw [hi2 i (by omega), ← hM1]
      rw [List.getElem?_set_ne (by omega), List.getElem?_set_ne (by omega), List.getElem?_set_ne (by omega)]
end Go.Proofs.YteddjcpaeoceeaaGreatDoor.Cm
namespace Go.Proofs.YteddjcpaeoceeaaGreatDoor.Cm
open Go
set_option linter.unusedVariables false
set_option maxRecDepth 100000
set_option linter.unusedSimpArgs false
theorem cal_deep (mem : Int) (I : List Int) : ∀ (n sp : Nat) (r1 r8 r9 fp ra : Int) (M O : List Int), sp < 3 * (n + 1) + 1 → sp ≤ M.length → M.length ≤ 400 → n ≤ 255 → w32 fp = fp → w32 ra = ra →
    ∃ k m, k ≤ 16 * n + 2 ∧ Goes (calC mem) k (calS 1 r1 (n : Int) r8 r9 (sp : Int) fp ra M I O) m ∧ Stops (calC mem) m 7 O
  | n, sp, r1, r8, r9, fp, ra, M, O, h1, h2, h3, h4, h5, h6 => by
    by_cases h0 : sp ≤ 3
    · obtain ⟨m, hg, hs⟩ := cal_trap mem r1 (n : Int) r8 r9 fp ra (sp : Int) M I O (by omega)
      exact ⟨2, m, by omega, hg, hs⟩
    cases n with
    | zero => omega
    | succ n =>
      obtain ⟨s, rfl⟩ : ∃ s, sp = s + 3 := ⟨sp - 3, by omega⟩
      obtain ⟨a, b, c, hg⟩ := cal_down mem r1 r8 r9 fp ra s n M I O h2 h3 (by omega) (by omega) h5 h6
      generalize hM1 : ((M.set s ra).set (s + 1) fp).set (s + 2) ((n : Int) + 1) = M1 at hg
      have hl : M1.length = M.length := by rw [← hM1]; simp
      obtain ⟨k, m, hk, hc, hs⟩ := cal_deep mem I n s a b c (s : Int) 17 M1 O (by omega) (by omega) (by omega) (by omega) (w32_id (by omega)) (w32_id (by decide))
      exact ⟨16 + k, m, by omega, hg.tr hc rfl, hs⟩
theorem cal_start (mem n : Nat) (hm : 1 ≤ mem) (hm2 : mem ≤ 400) (hn : n ≤ 255) : ∃ a, Goes (calC mem) 7 (ms0 mem [(n : Int)]) (calS 1 0 (n : Int) a 0 (mem : Int) 0 30 ((List.replicate mem 0).set 0 (n : Int)) [] []) := by
  have w1 : w32 (mem : Int) = (mem : Int) := w32_id (by omega)
  have w7 : w32 (n : Int) = (n : Int) := w32_id (by omega)
  have w30 : w32 30 = 30 := w32_id (by decide)
  have hg : goodI ⟨10, 29, 0, 0, (mem : Int)⟩ = true := by
    have h : ∀ k : Fin 401, goodI ⟨10, 29, 0, 0, ((k : Nat) : Int)⟩ = true := by decide +kernel
    exact h ⟨mem, by omega⟩
  have hL : (List.replicate mem (0 : Int)).length = mem := List.length_replicate
  have d1 : ¬ (mem : Int) ≤ 0 := by omega
  have d2 : 0 < mem := by omega
  have d3 : ¬ mem = 0 := by omega
  rw [show ms0 mem [(n : Int)] = ⟨[0, 0, 0, 0, 0, 0, 0, 0, 0, 0, 0, 0, 0, 0, 0, 0, 0, 0, 0, 0, 0, 0, 0, 0, 0, 0, 0, 0, 0, 0, 0, 0], List.replicate mem 0, 0, [(n : Int)], []⟩ from rfl]
  generalize List.replicate mem (0 : Int) = M at *
  unfold calS
  refine ⟨?a5, ?d5⟩
  case d5 =>
    iterate 7 (refine Goes.more (goes1 rfl rfl (by first | rfl | assumption) (by simp [stepI, actQ, sysQ, loadQ, reckonQ, reckQ, nextQ, rgQ, setQ, w32_w32, w32_tru, truQ_t, truQ_f, w32_0, w32_1, List.getD, w1, w7, w30, hL, d1, d2, d3]; try rfl)) ?_)
    exact Goes.rf _ _
end Go.Proofs.YteddjcpaeoceeaaGreatDoor.Cm
namespace Go.Proofs.YteddjcpaeoceeaaGreatDoor.Cm
open Go
set_option linter.unusedVariables false
set_option maxRecDepth 100000
set_option linter.unusedSimpArgs false
theorem cal_stop (mem : Int) (r1 r4 r8 r9 sp fp ra : Int) (M I O : List Int) : Stops (calC mem) (calS 30 r1 r4 r8 r9 sp fp ra M I O) 1 O := by
  unfold calS
  exact fun f hf => ⟨_, stop1 rfl rfl rfl (by simp [stepI, actQ, sysQ, loadQ, reckonQ, reckQ, nextQ, rgQ, setQ, w32_w32, w32_tru, truQ_t, truQ_f, w32_0, w32_1, List.getD]; try rfl) (by decide) hf, rfl⟩
theorem cal_run (mem n : Nat) (hm2 : mem ≤ 400) (hn : n ≤ 255) (h : 3 * (n + 1) + 1 ≤ mem) : ∃ k u, seqQ (calC mem) mem [(n : Int)] 20000 = (1, k, upL n, u) := by
  obtain ⟨a, h1⟩ := cal_start mem n (by omega) hm2 hn
  have hl : ((List.replicate mem (0 : Int)).set 0 (n : Int)).length = mem := by simp
  obtain ⟨M', b, c, d, e, h2, _, _⟩ := cal_call mem [] n mem 0 a 0 0 30 ((List.replicate mem 0).set 0 (n : Int)) [] h (by omega) (by omega) hn (w32_id (by decide)) (w32_id (by decide)) (by simp; omega)
  rw [List.nil_append] at h2
  exact seq_ex (n := mem) (fuel := 20000) (Nat.le_of_ble_eq_true rfl) (by omega) (h1.tr h2 rfl) (cal_stop _ _ _ _ _ _ _ _ _ _ _) (by omega)
theorem cal_full (mem n : Nat) (hm : 1 ≤ mem) (hm2 : mem ≤ 400) (hn : n ≤ 255) (h : mem < 3 * (n + 1) + 1) : ∃ k u, seqQ (calC mem) mem [(n : Int)] 20000 = (7, k, [], u) := by
  obtain ⟨a, h1⟩ := cal_start mem n hm hm2 hn
  have hl : ((List.replicate mem (0 : Int)).set 0 (n : Int)).length = mem := by simp
  obtain ⟨k, m, hk, h2, h3⟩ := cal_deep mem [] n mem 0 a 0 0 30 ((List.replicate mem 0).set 0 (n : Int)) [] h (by omega) (by omega) hn (w32_id (by decide)) (w32_id (by decide))
  exact seq_ex (n := mem) (fuel := 20000) (Nat.le_of_ble_eq_true rfl) (by omega) (h1.tr h2 rfl) h3 (by omega)
end Go.Proofs.YteddjcpaeoceeaaGreatDoor.Cm
namespace Go.Proofs.YteddjcpaeoceeaaGreatDoor.Cm
open Go Go.Sx Go.Sx.Chunk
set_option linter.unusedVariables false
set_option maxRecDepth 100000
set_option linter.unusedSimpArgs false
theorem cal_none : ((compF calT).1.isSome && decide ((compF calT).2 = (0, 0)) && decide (link1 (compO calT) 0 = ([], 0, 4)) && okB (compO calT)) = true := by decide +kernel
theorem cal_f (mem : Nat) (h1 : 1 ≤ mem) (h2 : mem ≤ 400) : factB calT (mem : Int) (calC (mem : Int)) 1 = true := by
  have h := cal_fact ⟨mem - 1, by omega⟩
  dsimp only at h
  rwa [show ((mem - 1 : Nat) : Int) + 1 = (mem : Int) by omega] at h
theorem cal_n0 : (∀ x, OkOb (obOf (compO calT) x)) ∧ link1 (compO calT) 0 = ([], 0, 4) := by
  have h := cal_none
  simp only [Bool.and_eq_true, decide_eq_true_eq] at h
  exact ⟨okB_ok h.2, h.1.2⟩
theorem linkN (b : Nat) (x : Ax) : FnC Tryz.prog 15 [.slice (some ⟨b, 0, none⟩) 1 1, .int .i64 0] (blk b (o6V (compO calT) x) 36 :: o6H (compO calT) x) [] (fun z : Option Addr × Nat => linkV (([], 0, 4) : List In × Int × Int) z) (fun z => row z.1 z.2 140 5 0 (insC []) :: blk b (o6V (compO calT) x) 36 :: o6H (compO calT) x) (fun _ => True) := by
  have h := linkOneC b (compO calT) x 0 (cal_n0.1 x)
  rw [cal_n0.2] at h
  exact h
theorem upL_get (n k : Nat) (h : k ≤ n) : (upL n)[k]? = some (k : Int) := by
  unfold upL; rw [List.getElem?_map, List.getElem?_range (by omega)]; rfl
theorem upL_len (n : Nat) : (upL n).length = n + 1 := by unfold upL; simp
set_option maxHeartbeats 8000000 in
theorem cal_law (v w : Int) (hv0 : inK .u8 v) (hw0 : inK .u16 w) : FnC (α := Unit) Tryz.prog 8 [.int .u8 v, .int .u16 w] [] [spaceV] (fun _ => .bool true) (fun _ => []) (fun _ => True) := by
  have haw := awakeC
  have hr : 0 ≤ v ∧ v ≤ 255 := by simpa [inK, IntKind.min, IntKind.max, IntKind.signed, IntKind.bits] using hv0
  obtain ⟨hr1, hr2⟩ := hr
  have hs : 0 ≤ w ∧ w ≤ 65535 := by simpa [inK, IntKind.min, IntKind.max, IntKind.signed, IntKind.bits] using hw0
  obtain ⟨hs1, hs2⟩ := hs
  obtain ⟨n, rfl⟩ : ∃ n : Nat, v = (n : Int) := ⟨v.toNat, by omega⟩
  obtain ⟨m, hm⟩ : ∃ m : Nat, w % 401 = (m : Int) := ⟨(w % 401).toNat, by omega⟩
  have hm4 : m ≤ 400 := by omega
  have hn : n ≤ 255 := by omega
  have h1 := fun s hs => compT (cal_f 1 (by omega) (by omega)) s hs (by decide)
  by_cases hm0 : m = 0
  · subst hm0
    have h2 := linkN
    generalize compO calT = o at *
    unfold linkV at h2
    unfold o6G o6H at h1
    unfold o6H o6V at h2
    refine fn_intro Tryz.func8 Tryz.ntmps8 rfl rfl rfl (fun w0 => ?_)
    try simp only [List.cons_append, List.nil_append, List.append_nil]
    refine rr ?_
    rw [hm]
    refine rr ?_
    refine cl (h1 _ (by kernel_rfl)) ?_
    intro x _
    try simp only [List.cons_append, List.nil_append, List.append_nil]
    refine rr ?_
    intro b1 _
    refine rr ?_
    intro b2 _
    refine rr ?_
    refine cl (h2 b2 x) ?_
    intro z _
    try simp only [List.cons_append, List.nil_append, List.append_nil]
    refine rr ?_
    intro b3 _
    refine rr ?_
    refine cl (haw) ?_
    intro _ _
    try simp only [List.cons_append, List.nil_append, List.append_nil]
    refine rr ?_
    exact en () trivial
  have h2 := fun c x => linkT (cal_f m (by omega) hm4) c x
  obtain ⟨t, k, out, u, hrun, ht⟩ : ∃ t k out u, seqQ (calC (m : Int)) m [(n : Int)] 20000 = (t, k, out, u) ∧ ((m < 3 * (n + 1) + 1 ∧ t = 7 ∧ out = []) ∨ (3 * (n + 1) + 1 ≤ m ∧ t = 1 ∧ out = upL n)) := by
    by_cases h20 : m < 3 * (n + 1) + 1
    · obtain ⟨k, u, hr⟩ := cal_full m n (by omega) hm4 hn h20
      exact ⟨_, k, _, u, hr, .inl ⟨h20, rfl, rfl⟩⟩
    · obtain ⟨k, u, hr⟩ := cal_run m n hm4 hn (by omega)
      exact ⟨_, k, _, u, hr, .inr ⟨by omega, rfl, rfl⟩⟩
  have h3 := fun ca cc ia ic => runC ca cc (calC (m : Int)) m ia ic [(n : Int)] 20000 (by decide) (by simp)
  rw [hrun] at h3
  generalize compO calT = o at *
  unfold linkV at h2
  unfold o6G o6H at h1
  unfold o6H o6V at h2
  unfold resG resH at h3
  dsimp only [List.length_cons] at h1 h2 h3
  have hcl : (calC (m : Int)).length ≤ 1000000 := Nat.le_of_ble_eq_true rfl
  generalize calC (m : Int) = code at *
  clear hrun
  refine fn_intro Tryz.func8 Tryz.ntmps8 rfl rfl rfl (fun w0 => ?_)
  try simp only [List.cons_append, List.nil_append, List.append_nil]
  refine rr ?_
  rw [hm]
  refine rr ?_
  refine cl (h1 _ (by kernel_rfl)) ?_
  intro x _
  try simp only [List.cons_append, List.nil_append, List.append_nil]
  refine rr ?_
  intro b1 _
  refine rr ?_
  intro b2 _
  refine rr ?_
  refine cl (h2 b2 x) ?_
  intro z _
  try simp only [List.cons_append, List.nil_append, List.append_nil]
  refine rr ?_
  intro b3 _
  refine rr ?_
  intro b4 _
  refine rr ?_
  rcases ht with ⟨h20, rfl, rfl⟩ | ⟨h20, rfl, rfl⟩
  · skip
    refine rr ?_
    refine cl (h3 z.1 z.2 _ _) ?_
    intro ⟨y1, y2, y3, y4⟩ _
    try simp only [List.cons_append, List.nil_append, List.append_nil]
    refine rr ?_
    intro b6 _
    refine rr ?_
    refine cl (haw) ?_
    intro _ _
    try simp only [List.cons_append, List.nil_append, List.append_nil]
    refine rr ?_
    exact en () trivial
  have hget1 : ∀ k : Nat, k ≤ n → (upL n)[k]? = some (k : Int) := fun k => upL_get n k
  have hR : (upL n).length = n + 1 := upL_len n
  generalize upL n = W at *
  rw [hR] at h3
  refine rr ?_
  refine cl (h3 z.1 z.2 _ _) ?_
  intro ⟨y1, y2, y3, y4⟩ _
  try simp only [List.cons_append, List.nil_append, List.append_nil]
  refine rr ?_
  intro b6 _
  refine rr ?_
  refine lo [85, 86] (fun k : Nat => [(87, .int .i64 (k : Int))]) (fun k => []) (fun k => k ≤ n + 1) (fun k => n + 1 - k) 0 (Nat.zero_le _) ?_
  intro k hk2 K2 hK2
  try dsimp only at hk2 ⊢
  by_cases hlt2 : k < n + 1
  · have hget : (i64C W)[(k : Int).toNat * 1]? = some (.int .i64 (k : Int)) := by rw [show (k : Int).toNat * 1 = k by omega]; exact i64C_get (hget1 k (by omega))
    refine rr ?_
    exact ro hK2 (k + 1) (by omega)
  · obtain rfl : k = n + 1 := by omega
    refine rr ?_
    refine cl (haw) ?_
    intro _ _
    try simp only [List.cons_append, List.nil_append, List.append_nil]
    refine rr ?_
    exact en () trivial
end Go.Proofs.YteddjcpaeoceeaaGreatDoor.Cm

/- Texts of the proof, in their order: Rw3, Rw4, Sm4, Li6. -/
import Derived.Test.YteddjcpaeoceeaaGreatDoorM8
set_option linter.unusedVariables false
set_option linter.unusedSimpArgs false
namespace Go.Proofs.YteddjcpaeoceeaaGreatDoor
open Go Go.Sx Go.Sx.Chunk
set_option linter.unusedVariables false
set_option maxRecDepth 100000
set_option linter.unusedSimpArgs false
/-- The bit that is tried next. -/
def bitD (j : Nat) : Int := ((2 ^ j / 2 : Nat) : Int)
theorem bitD_s (i : Nat) : bitD (i + 1) = ((2 ^ i : Nat) : Int) := by
  unfold bitD
  rw [Nat.pow_succ, Nat.mul_div_cancel _ (by decide)]
theorem bitD_half (i : Nat) : bitD (i + 1) / 2 = bitD i := by
  rw [bitD_s]; unfold bitD; omega
structure DivI (x y : Int) (j : Nat) (q : Int) : Prop where
  le : q * y ≤ x
  lt : x < (q + ((2 ^ j : Nat) : Int)) * y
  q0 : 0 ≤ q
  qj : q + ((2 ^ j : Nat) : Int) ≤ 4294967296
theorem DivI.yes {x y q : Int} {i : Nat} (h : DivI x y (i + 1) q) (hc : (q + bitD (i + 1)) * y ≤ x) : DivI x y i (q + bitD (i + 1)) := by
  have h2 := h.lt
  have h4 := h.qj
  have h5 := h.q0
  rw [bitD_s] at *
  have e : ((2 ^ (i + 1) : Nat) : Int) = ((2 ^ i : Nat) : Int) + ((2 ^ i : Nat) : Int) := by rw [Nat.pow_succ]; omega
  rw [e, ← Int.add_assoc] at h2 h4
  have hpos : (0 : Int) ≤ ((2 ^ i : Nat) : Int) := Int.natCast_nonneg _
  exact ⟨hc, h2, Int.add_nonneg h5 hpos, h4⟩
theorem DivI.no {x y q : Int} {i : Nat} (h : DivI x y (i + 1) q) (hc : ¬ (q + bitD (i + 1)) * y ≤ x) : DivI x y i q := by
  have h4 := h.qj
  rw [bitD_s] at *
  have e : ((2 ^ (i + 1) : Nat) : Int) = ((2 ^ i : Nat) : Int) + ((2 ^ i : Nat) : Int) := by rw [Nat.pow_succ]; omega
  rw [e, ← Int.add_assoc] at h4
  have hpos : (0 : Int) ≤ ((2 ^ i : Nat) : Int) := Int.natCast_nonneg _
  exact ⟨h.le, Int.not_le.1 hc, h.q0, Int.le_trans (Int.le_add_of_nonneg_right hpos) h4⟩
theorem DivI.facts {x y q : Int} {i : Nat} (h : DivI x y (i + 1) q) (hx : x ≤ 2147483648) (hy : 1 ≤ y ∧ y ≤ 2147483648) : 0 ≤ (q + bitD (i + 1)) * y ∧ (q + bitD (i + 1)) * y ≤ 9223372036854775807 ∧ 1 ≤ bitD (i + 1) ∧ 0 ≤ q ∧ q + bitD (i + 1) ≤ 4294967295 ∧ q + bitD (i + 1) ≤ (q + bitD (i + 1)) * y := by
  have h4 := h.qj
  have h5 := h.q0
  have hp : 1 ≤ bitD (i + 1) := by rw [bitD_s]; have := Nat.two_pow_pos i; omega
  have e : ((2 ^ (i + 1) : Nat) : Int) = bitD (i + 1) + bitD (i + 1) := by rw [bitD_s, Nat.pow_succ]; omega
  rw [e] at h4
  have hs : q + bitD (i + 1) ≤ 4294967295 := by omega
  have hm : (q + bitD (i + 1)) * y ≤ 4294967295 * 2147483648 := Int.mul_le_mul hs hy.2 (by omega) (by omega)
  have hn : (q + bitD (i + 1)) * 1 ≤ (q + bitD (i + 1)) * y := Int.mul_le_mul_of_nonneg_left hy.1 (by omega)
  exact ⟨by omega, by omega, hp, h5, hs, by omega⟩
theorem DivI.done {x y q : Int} (h : DivI x y 0 q) (hx : 0 ≤ x) (hy : 1 ≤ y) : q = x / y := by
  have h1 := h.le
  have h2 := h.lt
  have e : q = x / y := by
    have h3 : q ≤ x / y := (Int.le_ediv_iff_mul_le (by omega)).2 h1
    have h4 : x / y < q + 1 := (Int.ediv_lt_iff_lt_mul (by omega)).2 h2
    omega
  exact e
theorem DivI.start {x y : Int} (hx : 0 ≤ x ∧ x ≤ 2147483648) (hy : 1 ≤ y) : DivI x y 32 0 := by
  refine ⟨by omega, ?_, by omega, by decide⟩
  rw [show (0 : Int) + ((2 ^ 32 : Nat) : Int) = 4294967296 by decide]
  omega
theorem rdiv_q {x y : Int} (hx : 0 ≤ x) (hy : 1 ≤ y) : x / y * y ≤ x ∧ 0 ≤ x / y ∧ x / y ≤ x ∧ 0 ≤ x / y * y := by
  refine ⟨Int.ediv_mul_le x (by omega), Int.ediv_nonneg hx (by omega), ?_, Int.mul_nonneg (Int.ediv_nonneg hx (by omega)) (by omega)⟩
  have h := Int.ediv_mul_le x (b := y) (by omega)
  have h2 := Int.ediv_nonneg (a := x) (b := y) hx (by omega)
  have h3 : x / y * 1 ≤ x / y * y := Int.mul_le_mul_of_nonneg_left hy h2
  omega
set_option maxHeartbeats 4000000 in
theorem rdivC_pp (a b : Int) (ha : w32 a = a) (hb : w32 b = b) (sa : ¬ a < 0) (sb : 0 < b) (ba : -2147483648 ≤ a ∧ a ≤ 2147483647) (bb : -2147483648 ≤ b ∧ b ≤ 2147483647) : FnC (α := Unit) Tryz.prog 22 [.int .i64 a, .int .i64 b] [] [] (fun _ => .tuple #[.int .i64 (w32 (a / b)), .int .i64 (a - a / b * b)]) (fun _ => []) (fun _ => True) := by
  have h1 := rwrapC a
  have h2 := rwrapC b
  rw [ha] at h1
  rw [hb] at h2
  have h3 := rwrapC (a / b)
  have bx : 0 ≤ a ∧ a ≤ 2147483648 := by omega
  have bY : 1 ≤ b ∧ b ≤ 2147483648 := by omega
  refine fn_intro Tryz.func22 Tryz.ntmps22 rfl rfl rfl (fun w0 => ?_)
  try simp only [List.cons_append, List.nil_append, List.append_nil]
  refine rr ?_
  refine cl (h1) ?_
  intro _ _
  try simp only [List.cons_append, List.nil_append, List.append_nil]
  refine rr ?_
  refine cl (h2) ?_
  intro _ _
  try simp only [List.cons_append, List.nil_append, List.append_nil]
  refine rr ?_
  refine lo [0, 1, 6, 7] (fun z : Nat × Int => [(8, .int .i64 z.2), (9, .int .i64 (bitD z.1))]) (fun z => []) (fun z => DivI a b z.1 z.2) (fun z => z.1) (32, 0) (DivI.start bx bY.1) ?_
  rintro ⟨j, q⟩ hI K1 hK1
  dsimp only at hI ⊢
  cases j with
  | succ i =>
    obtain ⟨f1, f2, f3, f4, f5, f6⟩ := hI.facts bx.2 bY
    have hyes := hI.yes
    have hno := hI.no
    have hh := bitD_half i
    generalize bitD (i + 1) = p at *
    have h20 : (2 : Int) ≠ 0 := by decide
    by_cases hc : (q + p) * b ≤ a
    · have hc2 : q + p ≤ a := by omega
      refine rr ?_
      rw [hh]
      exact ro hK1 (i, q + p) (hyes hc)
    · skip
      refine rr ?_
      rw [hh]
      exact ro hK1 (i, q) (hno hc)
  | zero =>
    have hq := hI.done bx.1 bY.1
    obtain ⟨g1, g2, g3, g4⟩ := rdiv_q bx.1 bY.1
    rw [← hq] at g1 g2 g3 g4 h3
    have hb0 : bitD 0 = 0 := rfl
    rw [hb0]
    rw [← hq]
    have eA : decide (a < 0) = false := by simp; omega
    have eB : decide (b < 0) = false := by simp; omega
    refine rr ?_
    rw [eA, eB]
    refine rr ?_
    refine cl (h3) ?_
    intro _ _
    try simp only [List.cons_append, List.nil_append, List.append_nil]
    refine rr ?_
    exact en () trivial
set_option maxHeartbeats 4000000 in
theorem rdivC_pn (a b : Int) (ha : w32 a = a) (hb : w32 b = b) (sa : ¬ a < 0) (sb : b < 0) (ba : -2147483648 ≤ a ∧ a ≤ 2147483647) (bb : -2147483648 ≤ b ∧ b ≤ 2147483647) : FnC (α := Unit) Tryz.prog 22 [.int .i64 a, .int .i64 b] [] [] (fun _ => .tuple #[.int .i64 (w32 (-(a / (-b)))), .int .i64 (a - a / (-b) * (-b))]) (fun _ => []) (fun _ => True) := by
  have h1 := rwrapC a
  have h2 := rwrapC b
  rw [ha] at h1
  rw [hb] at h2
  have h3 := rwrapC (-(a / (-b)))
  obtain ⟨y, hy⟩ : ∃ y, -b = y := ⟨_, rfl⟩
  rw [hy] at h3 ⊢
  have bx : 0 ≤ a ∧ a ≤ 2147483648 := by omega
  have bY : 1 ≤ y ∧ y ≤ 2147483648 := by omega
  refine fn_intro Tryz.func22 Tryz.ntmps22 rfl rfl rfl (fun w0 => ?_)
  try simp only [List.cons_append, List.nil_append, List.append_nil]
  refine rr ?_
  refine cl (h1) ?_
  intro _ _
  try simp only [List.cons_append, List.nil_append, List.append_nil]
  refine rr ?_
  refine cl (h2) ?_
  intro _ _
  try simp only [List.cons_append, List.nil_append, List.append_nil]
  refine rr ?_
  rw [hy]
  refine lo [0, 1, 6, 7] (fun z : Nat × Int => [(8, .int .i64 z.2), (9, .int .i64 (bitD z.1))]) (fun z => []) (fun z => DivI a y z.1 z.2) (fun z => z.1) (32, 0) (DivI.start bx bY.1) ?_
  rintro ⟨j, q⟩ hI K1 hK1
  dsimp only at hI ⊢
  cases j with
  | succ i =>
    obtain ⟨f1, f2, f3, f4, f5, f6⟩ := hI.facts bx.2 bY
    have hyes := hI.yes
    have hno := hI.no
    have hh := bitD_half i
    generalize bitD (i + 1) = p at *
    have h20 : (2 : Int) ≠ 0 := by decide
    by_cases hc : (q + p) * y ≤ a
    · have hc2 : q + p ≤ a := by omega
      refine rr ?_
      rw [hh]
      exact ro hK1 (i, q + p) (hyes hc)
    · skip
      refine rr ?_
      rw [hh]
      exact ro hK1 (i, q) (hno hc)
  | zero =>
    have hq := hI.done bx.1 bY.1
    obtain ⟨g1, g2, g3, g4⟩ := rdiv_q bx.1 bY.1
    rw [← hq] at g1 g2 g3 g4 h3
    have hb0 : bitD 0 = 0 := rfl
    rw [hb0]
    rw [← hq]
    have eA : decide (a < 0) = false := by simp; omega
    have eB : decide (b < 0) = true := by simp; omega
    refine rr ?_
    rw [eA, eB]
    refine rr ?_
    refine cl (h3) ?_
    intro _ _
    try simp only [List.cons_append, List.nil_append, List.append_nil]
    refine rr ?_
    exact en () trivial
set_option maxHeartbeats 4000000 in
theorem rdivC_np (a b : Int) (ha : w32 a = a) (hb : w32 b = b) (sa : a < 0) (sb : 0 < b) (ba : -2147483648 ≤ a ∧ a ≤ 2147483647) (bb : -2147483648 ≤ b ∧ b ≤ 2147483647) : FnC (α := Unit) Tryz.prog 22 [.int .i64 a, .int .i64 b] [] [] (fun _ => .tuple #[.int .i64 (w32 (-((-a) / b))), .int .i64 (-((-a) - (-a) / b * b))]) (fun _ => []) (fun _ => True) := by
  have h1 := rwrapC a
  have h2 := rwrapC b
  rw [ha] at h1
  rw [hb] at h2
  have h3 := rwrapC (-((-a) / b))
  obtain ⟨x, hx⟩ : ∃ x, -a = x := ⟨_, rfl⟩
  rw [hx] at h3 ⊢
  have bx : 0 ≤ x ∧ x ≤ 2147483648 := by omega
  have bY : 1 ≤ b ∧ b ≤ 2147483648 := by omega
  refine fn_intro Tryz.func22 Tryz.ntmps22 rfl rfl rfl (fun w0 => ?_)
  try simp only [List.cons_append, List.nil_append, List.append_nil]
  refine rr ?_
  refine cl (h1) ?_
  intro _ _
  try simp only [List.cons_append, List.nil_append, List.append_nil]
  refine rr ?_
  refine cl (h2) ?_
  intro _ _
  try simp only [List.cons_append, List.nil_append, List.append_nil]
  refine rr ?_
  rw [hx]
  refine lo [0, 1, 6, 7] (fun z : Nat × Int => [(8, .int .i64 z.2), (9, .int .i64 (bitD z.1))]) (fun z => []) (fun z => DivI x b z.1 z.2) (fun z => z.1) (32, 0) (DivI.start bx bY.1) ?_
  rintro ⟨j, q⟩ hI K1 hK1
  dsimp only at hI ⊢
  cases j with
  | succ i =>
    obtain ⟨f1, f2, f3, f4, f5, f6⟩ := hI.facts bx.2 bY
    have hyes := hI.yes
    have hno := hI.no
    have hh := bitD_half i
    generalize bitD (i + 1) = p at *
    have h20 : (2 : Int) ≠ 0 := by decide
    by_cases hc : (q + p) * b ≤ x
    · have hc2 : q + p ≤ x := by omega
      refine rr ?_
      rw [hh]
      exact ro hK1 (i, q + p) (hyes hc)
    · skip
      refine rr ?_
      rw [hh]
      exact ro hK1 (i, q) (hno hc)
  | zero =>
    have hq := hI.done bx.1 bY.1
    obtain ⟨g1, g2, g3, g4⟩ := rdiv_q bx.1 bY.1
    rw [← hq] at g1 g2 g3 g4 h3
    have hb0 : bitD 0 = 0 := rfl
    rw [hb0]
    rw [← hq]
    have eA : decide (a < 0) = true := by simp; omega
    have eB : decide (b < 0) = false := by simp; omega
    refine rr ?_
    rw [eA, eB]
    refine rr ?_
    refine cl (h3) ?_
    intro _ _
    try simp only [List.cons_append, List.nil_append, List.append_nil]
    refine rr ?_
    exact en () trivial
set_option maxHeartbeats 4000000 in
theorem rdivC_nn (a b : Int) (ha : w32 a = a) (hb : w32 b = b) (sa : a < 0) (sb : b < 0) (ba : -2147483648 ≤ a ∧ a ≤ 2147483647) (bb : -2147483648 ≤ b ∧ b ≤ 2147483647) : FnC (α := Unit) Tryz.prog 22 [.int .i64 a, .int .i64 b] [] [] (fun _ => .tuple #[.int .i64 (w32 ((-a) / (-b))), .int .i64 (-((-a) - (-a) / (-b) * (-b)))]) (fun _ => []) (fun _ => True) := by
  have h1 := rwrapC a
  have h2 := rwrapC b
  rw [ha] at h1
  rw [hb] at h2
  have h3 := rwrapC ((-a) / (-b))
  obtain ⟨x, hx⟩ : ∃ x, -a = x := ⟨_, rfl⟩
  rw [hx] at h3 ⊢
  obtain ⟨y, hy⟩ : ∃ y, -b = y := ⟨_, rfl⟩
  rw [hy] at h3 ⊢
  have bx : 0 ≤ x ∧ x ≤ 2147483648 := by omega
  have bY : 1 ≤ y ∧ y ≤ 2147483648 := by omega
  refine fn_intro Tryz.func22 Tryz.ntmps22 rfl rfl rfl (fun w0 => ?_)
  try simp only [List.cons_append, List.nil_append, List.append_nil]
  refine rr ?_
  refine cl (h1) ?_
  intro _ _
  try simp only [List.cons_append, List.nil_append, List.append_nil]
  refine rr ?_
  refine cl (h2) ?_
  intro _ _
  try simp only [List.cons_append, List.nil_append, List.append_nil]
  refine rr ?_
  rw [hx]
  rw [hy]
  refine lo [0, 1, 6, 7] (fun z : Nat × Int => [(8, .int .i64 z.2), (9, .int .i64 (bitD z.1))]) (fun z => []) (fun z => DivI x y z.1 z.2) (fun z => z.1) (32, 0) (DivI.start bx bY.1) ?_
  rintro ⟨j, q⟩ hI K1 hK1
  dsimp only at hI ⊢
  cases j with
  | succ i =>
    obtain ⟨f1, f2, f3, f4, f5, f6⟩ := hI.facts bx.2 bY
    have hyes := hI.yes
    have hno := hI.no
    have hh := bitD_half i
    generalize bitD (i + 1) = p at *
    have h20 : (2 : Int) ≠ 0 := by decide
    by_cases hc : (q + p) * y ≤ x
    · have hc2 : q + p ≤ x := by omega
      refine rr ?_
      rw [hh]
      exact ro hK1 (i, q + p) (hyes hc)
    · skip
      refine rr ?_
      rw [hh]
      exact ro hK1 (i, q) (hno hc)
  | zero =>
    have hq := hI.done bx.1 bY.1
    obtain ⟨g1, g2, g3, g4⟩ := rdiv_q bx.1 bY.1
    rw [← hq] at g1 g2 g3 g4 h3
    have hb0 : bitD 0 = 0 := rfl
    rw [hb0]
    rw [← hq]
    have eA : decide (a < 0) = true := by simp; omega
    have eB : decide (b < 0) = true := by simp; omega
    refine rr ?_
    rw [eA, eB]
    refine rr ?_
    refine cl (h3) ?_
    intro _ _
    try simp only [List.cons_append, List.nil_append, List.append_nil]
    refine rr ?_
    exact en () trivial
end Go.Proofs.YteddjcpaeoceeaaGreatDoor

namespace Go.Proofs.YteddjcpaeoceeaaGreatDoor
open Go Go.Sx Go.Sx.Chunk
set_option linter.unusedVariables false
set_option maxRecDepth 100000
set_option linter.unusedSimpArgs false
theorem rdivC (a b : Int) (ha : w32 a = a) (hb : w32 b = b) (h0 : b ≠ 0) : FnC (α := Unit) Tryz.prog 22 [.int .i64 a, .int .i64 b] [] [] (fun _ => .tuple #[.int .i64 (w32 (a.tdiv b)), .int .i64 (a.tmod b)]) (fun _ => []) (fun _ => True) := by
  have ba := w32_in a
  have bb := w32_in b
  rw [ha] at ba
  rw [hb] at bb
  rw [Int.tmod_def a b]
  by_cases sa : a < 0
  · have ea : a.tdiv b = -((-a).tdiv b) := by rw [Int.neg_tdiv, Int.neg_neg]
    by_cases sb : b < 0
    · have e : a.tdiv b = -a / -b := by
        rw [ea, ← Int.tdiv_eq_ediv_of_nonneg (by omega : (0 : Int) ≤ -a), Int.tdiv_neg]
      have e2 : a - b * a.tdiv b = -(-a - -a / -b * -b) := by
        rw [e, Int.mul_neg, Int.mul_comm b]; omega
      rw [e2, e]
      exact rdivC_nn a b ha hb sa sb ba bb
    · have e : a.tdiv b = -(-a / b) := by
        rw [ea, ← Int.tdiv_eq_ediv_of_nonneg (by omega : (0 : Int) ≤ -a)]
      have e2 : a - b * a.tdiv b = -(-a - -a / b * b) := by
        rw [e, Int.mul_neg, Int.mul_comm b]; omega
      rw [e2, e]
      exact rdivC_np a b ha hb sa (by omega) ba bb
  · by_cases sb : b < 0
    · have e : a.tdiv b = -(a / -b) := by
        rw [← Int.tdiv_eq_ediv_of_nonneg (by omega : (0 : Int) ≤ a), Int.tdiv_neg, Int.neg_neg]
      have e2 : a - b * a.tdiv b = a - a / -b * -b := by
        rw [e, Int.mul_neg, Int.mul_neg, Int.mul_comm b]
      rw [e2, e]
      exact rdivC_pn a b ha hb sa sb ba bb
    · have e : a.tdiv b = a / b := by
        rw [← Int.tdiv_eq_ediv_of_nonneg (by omega : (0 : Int) ≤ a)]
      have e2 : a - b * a.tdiv b = a - a / b * b := by
        rw [e, Int.mul_comm b]
      rw [e2, e]
      exact rdivC_pp a b ha hb sa (by omega) ba bb
end Go.Proofs.YteddjcpaeoceeaaGreatDoor
namespace Go.Proofs.YteddjcpaeoceeaaGreatDoor.Cm
open Go
set_option linter.unusedVariables false
set_option maxRecDepth 100000
set_option linter.unusedSimpArgs false
def divC : List In := [⟨17, 0, 0, 0, 1⟩, ⟨10, 29, 0, 0, 10⟩, ⟨20, 0, 0, 0, 1⟩, ⟨13, 4, 0, 0, 0⟩, ⟨20, 0, 0, 0, 1⟩, ⟨13, 4, 0, 0, 1⟩, ⟨12, 8, 0, 0, 0⟩, ⟨12, 9, 0, 0, 1⟩, ⟨4, 8, 8, 9, 0⟩, ⟨1, 4, 8, 0, 0⟩, ⟨20, 0, 0, 0, 2⟩, ⟨12, 8, 0, 0, 0⟩, ⟨12, 9, 0, 0, 1⟩, ⟨5, 8, 8, 9, 0⟩, ⟨1, 4, 8, 0, 0⟩, ⟨20, 0, 0, 0, 2⟩, ⟨20, 0, 0, 0, 0⟩]
theorem ms10 (inp : List Int) : ms0 10 inp = ⟨[0, 0, 0, 0, 0, 0, 0, 0, 0, 0, 0, 0, 0, 0, 0, 0, 0, 0, 0, 0, 0, 0, 0, 0, 0, 0, 0, 0, 0, 0, 0, 0], [0, 0, 0, 0, 0, 0, 0, 0, 0, 0], 0, inp, []⟩ := rfl
theorem tmod_in {a b : Int} (ha : -2147483648 ≤ a ∧ a ≤ 2147483647) : -2147483648 ≤ a.tmod b ∧ a.tmod b ≤ 2147483647 := by
  rcases Int.lt_or_le a 0 with h | h
  · have h1 : a.tmod b = -((-a).tmod b) := by rw [Int.neg_tmod, Int.neg_neg]
    have h2 := Int.tmod_nonneg b (by omega : (0 : Int) ≤ -a)
    have h3 : (-a).tmod b ≤ -a := by
      have h4 := Int.mul_tdiv_add_tmod (-a) b
      have h5 : 0 ≤ b * (-a).tdiv b := by
        rcases Int.le_total 0 b with hb | hb
        · exact Int.mul_nonneg hb (Int.tdiv_nonneg (by omega) hb)
        · have : (-a).tdiv b = -((-a).tdiv (-b)) := by rw [Int.tdiv_neg, Int.neg_neg]
          rw [this, ← Int.neg_mul_neg, Int.neg_neg]
          exact Int.mul_nonneg (by omega) (Int.tdiv_nonneg (by omega) (by omega))
      omega
    omega
  · have h2 := Int.tmod_nonneg b h
    have h3 : a.tmod b ≤ a := by
      have h4 := Int.mul_tdiv_add_tmod a b
      have h5 : 0 ≤ b * a.tdiv b := by
        rcases Int.le_total 0 b with hb | hb
        · exact Int.mul_nonneg hb (Int.tdiv_nonneg h hb)
        · have : a.tdiv b = -(a.tdiv (-b)) := by rw [Int.tdiv_neg, Int.neg_neg]
          rw [this, ← Int.neg_mul_neg, Int.neg_neg]
          exact Int.mul_nonneg (by omega) (Int.tdiv_nonneg h (by omega))
      omega
    omega
theorem div_run (a b : Int) (ha : w32 a = a) (hb : w32 b = b) (h0 : b ≠ 0) : ∃ n u, seqQ divC 10 [a, b] 1000 = (1, n, [w32 (a.tdiv b), a.tmod b], u) := by
  have w10 : w32 10 = 10 := w32_id (by decide)
  have ba := w32_in a
  rw [ha] at ba
  have hm : w32 (a.tmod b) = a.tmod b := w32_id (tmod_in ba)
  have hgo : ∃ m, Goes divC 16 (ms0 10 [a, b]) m ∧ Stops divC m 1 [w32 (a.tdiv b), a.tmod b] := by
    rw [ms10]
    refine ⟨?m1, ?a1, ?b1⟩
    case a1 =>
      iterate 16 (refine Goes.more (goes1 rfl rfl (by first | rfl | assumption) (by simp [stepI, actQ, sysQ, loadQ, reckonQ, reckQ, nextQ, rgQ, setQ, w32_w32, w32_tru, truQ_t, truQ_f, w32_0, w32_1, List.getD, ha, hb, w10, h0, hm]; try rfl)) ?_)
      exact Goes.rf _ _
    exact fun f hf => ⟨_, stop1 rfl rfl rfl (by simp [stepI, actQ, sysQ, loadQ, reckonQ, reckQ, nextQ, rgQ, setQ, w32_w32, w32_tru, truQ_t, truQ_f, w32_0, w32_1, List.getD]; try rfl) (by decide) hf, rfl⟩
  obtain ⟨m, h1, h2⟩ := hgo
  exact seq_ex (n := 10) (fuel := 1000) (by decide) (by decide) h1 h2 (by decide)
theorem div_zero (a : Int) (ha : w32 a = a) : ∃ n u, seqQ divC 10 [a, 0] 1000 = (4, n, [], u) := by
  have w10 : w32 10 = 10 := w32_id (by decide)
  have hgo : ∃ m, Goes divC 8 (ms0 10 [a, 0]) m ∧ Stops divC m 4 [] := by
    rw [ms10]
    refine ⟨?m2, ?a2, ?b2⟩
    case a2 =>
      iterate 8 (refine Goes.more (goes1 rfl rfl (by first | rfl | assumption) (by simp [stepI, actQ, sysQ, loadQ, reckonQ, reckQ, nextQ, rgQ, setQ, w32_w32, w32_tru, truQ_t, truQ_f, w32_0, w32_1, List.getD, ha, w10]; try rfl)) ?_)
      exact Goes.rf _ _
    exact fun f hf => ⟨_, stop1 rfl rfl rfl (by simp [stepI, actQ, sysQ, loadQ, reckonQ, reckQ, nextQ, rgQ, setQ, w32_w32, w32_tru, truQ_t, truQ_f, w32_0, w32_1, List.getD, ha]; try rfl) (by decide) hf, rfl⟩
  obtain ⟨m, h1, h2⟩ := hgo
  exact seq_ex (n := 10) (fuel := 1000) (by decide) (by decide) h1 h2 (by decide)
end Go.Proofs.YteddjcpaeoceeaaGreatDoor.Cm
namespace Go.Proofs.YteddjcpaeoceeaaGreatDoor.Cm
open Go Go.Sx Go.Sx.Chunk
set_option linter.unusedVariables false
set_option maxRecDepth 100000
set_option linter.unusedSimpArgs false
theorem div_fact : factB divT 10 divC 2 = true := by decide +kernel
set_option maxHeartbeats 8000000 in
theorem div_law (a b : Int) (ha : inK .i32 a) (hb : inK .i32 b) : FnC (α := Unit) Tryz.prog 6 [.int .i32 a, .int .i32 b] [] [spaceV] (fun _ => .bool true) (fun _ => []) (fun _ => True) := by
  have haw := awakeC
  have wa := w32_of ha
  have wb := w32_of hb
  have hr : (-2147483648 ≤ a ∧ a ≤ 2147483647) ∧ -2147483648 ≤ b ∧ b ≤ 2147483647 := by simpa [inK, IntKind.min, IntKind.max, IntKind.signed, IntKind.bits] using And.intro ha hb
  obtain ⟨⟨hr1, hr2⟩, hr3, hr4⟩ := hr
  have h1 := fun s hs => compT div_fact s hs (by decide)
  have h2 := fun c x => linkT div_fact c x
  by_cases h0 : b = 0
  · subst h0
    obtain ⟨n, u, hrun⟩ := div_zero a wa
    have h3 := fun ca cc ia ic => runC ca cc divC 10 ia ic [a, 0] 1000 (by decide) (by simp)
    rw [hrun] at h3
    generalize compO divT = o at *
    unfold linkV at h2
    unfold o6G o6H at h1
    unfold o6H o6V at h2
    unfold resG resH i64C at h3
    dsimp only at h1 h2 h3
    generalize divC = code at *
    clear hrun wa wb
    refine fn_intro Tryz.func6 Tryz.ntmps6 rfl rfl rfl (fun w0 => ?_)
    try simp only [List.cons_append, List.nil_append, List.append_nil]
    refine rr ?_
    refine cl (h1 _ (by kernel_rfl)) ?_
    intro x _
    try simp only [List.cons_append, List.nil_append, List.append_nil]
    refine rr ?_
    intro b1 _
    refine rr ?_
    intro b2 _
    refine rr ?_
    refine cl (h2 b2 x) ?_
    intro z _
    try simp only [List.cons_append, List.nil_append, List.append_nil]
    refine rr ?_
    intro b3 _
    refine rr ?_
    intro b4 _
    refine rr ?_
    refine cl (h3 z.1 z.2 _ _) ?_
    intro y _
    try simp only [List.cons_append, List.nil_append, List.append_nil]
    refine rr ?_
    intro b5 _
    refine rr ?_
    refine cl (haw) ?_
    intro _ _
    try simp only [List.cons_append, List.nil_append, List.append_nil]
    refine rr ?_
    exact en () trivial
  · obtain ⟨n, u, hrun⟩ := div_run a b wa wb h0
    have h3 := fun ca cc ia ic => runC ca cc divC 10 ia ic [a, b] 1000 (by decide) (by simp)
    have h4 := rdivC a b wa wb h0
    rw [hrun] at h3
    obtain ⟨q, hq⟩ : ∃ q, w32 (a.tdiv b) = q := ⟨_, rfl⟩
    obtain ⟨r, hr⟩ : ∃ r, a.tmod b = r := ⟨_, rfl⟩
    rw [hq, hr] at h3 h4
    generalize compO divT = o at *
    unfold linkV at h2
    unfold o6G o6H at h1
    unfold o6H o6V at h2
    unfold resG resH i64C at h3
    dsimp only at h1 h2 h3
    generalize divC = code at *
    clear hrun wa wb hq hr
    refine fn_intro Tryz.func6 Tryz.ntmps6 rfl rfl rfl (fun w0 => ?_)
    try simp only [List.cons_append, List.nil_append, List.append_nil]
    refine rr ?_
    refine cl (h1 _ (by kernel_rfl)) ?_
    intro x _
    try simp only [List.cons_append, List.nil_append, List.append_nil]
    refine rr ?_
    intro b1 _
    refine rr ?_
    intro b2 _
    refine rr ?_
    refine cl (h2 b2 x) ?_
    intro z _
    try simp only [List.cons_append, List.nil_append, List.append_nil]
    refine rr ?_
    intro b3 _
    refine rr ?_
    intro b4 _
    refine rr ?_
    refine cl (h3 z.1 z.2 _ _) ?_
    intro ⟨y1, y2, y3, y4⟩ _
    try simp only [List.cons_append, List.nil_append, List.append_nil]
    refine rr ?_
    intro b5 _
    refine rr ?_
    refine cl (h4) ?_
    intro _ _
    try simp only [List.cons_append, List.nil_append, List.append_nil]
    refine w_use (fun w hw => (hw.pick 1 rfl).row_some (by simp)) ?_
    rintro ⟨g1, rfl⟩
    refine rr ?_
    refine cl (haw) ?_
    intro _ _
    try simp only [List.cons_append, List.nil_append, List.append_nil]
    refine rr ?_
    exact en () trivial
end Go.Proofs.YteddjcpaeoceeaaGreatDoor.Cm

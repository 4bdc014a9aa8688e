/- Contracts of the document's scan: letters, digits, signs. -/
import Derived.Test.YteafgnbkeghmdaaSn9
namespace Go.Proofs.Yteafgnbkeghmdaa
open Go Go.Sx Go.Sx.Chunk
set_option linter.unusedVariables false
set_option linter.unusedSimpArgs false

theorem rDigitC (c : Int) : FnC (α := Unit) Try.prog 16 [.int .u8 c] [] [] (fun _ => .bool (isDigit c)) (fun _ => []) (fun _ => True) := by
  refine fn_intro Try.func16 Try.ntmps16 rfl rfl rfl (fun w0 => ?_)
  try simp only [List.cons_append, List.nil_append, List.append_nil]
  by_cases h : 48 ≤ c
  · refine rr ?_
    refine we () [] trivial (hv := ?_)
    simp only [isDigit, packR, h, decide_true, Bool.true_and]
  · refine rr ?_
    refine we () [] trivial (hv := ?_)
    simp [isDigit, packR, h]
theorem rLetterC (c : Int) : FnC (α := Unit) Try.prog 15 [.int .u8 c] [] [] (fun _ => .bool (isLetter c)) (fun _ => []) (fun _ => True) := by
  refine fn_intro Try.func15 Try.ntmps15 rfl rfl rfl (fun w0 => ?_)
  try simp only [List.cons_append, List.nil_append, List.append_nil]
  by_cases h : 97 ≤ c
  · by_cases h2 : c ≤ 122
    · refine rr ?_
      refine we () [] trivial (hv := ?_)
      simp [isLetter, packR, h, h2]
    · refine rr ?_
      refine we () [] trivial (hv := ?_)
      simp [isLetter, packR, h, h2]
      intros; omega
  · by_cases h3 : 65 ≤ c
    · refine rr ?_
      refine we () [] trivial (hv := ?_)
      simp [isLetter, packR, h, h3]
    · refine rr ?_
      refine we () [] trivial (hv := ?_)
      simp [isLetter, packR, h, h3]
def twoI (a b : Int) : Bool := b == 61 && (a == 58 || a == 60 || a == 62) || a == 60 && b == 62
theorem two_int (a b : UInt8) : twoI (a.toNat : Int) (b.toNat : Int) = two a b := by
  have key : ∀ (x : UInt8) (m : Nat), m < 256 → ((x.toNat : Int) == (m : Int)) = (x == m.toUInt8) := by
    intro x m hm
    rw [Bool.eq_iff_iff]
    simp only [beq_iff_eq, ← UInt8.toNat_inj]
    have : m.toUInt8.toNat = m := by simp [Nat.toUInt8, UInt8.toNat_ofNat]; omega
    rw [this]; omega
  unfold twoI two
  have := key a 58 (by decide)
  have := key a 60 (by decide)
  have := key a 62 (by decide)
  have := key b 61 (by decide)
  have := key b 62 (by decide)
  simp_all
theorem rTwoC (a b : Int) : FnC (α := Unit) Try.prog 18 [.int .u8 a, .int .u8 b] [] [] (fun _ => .bool (twoI a b)) (fun _ => []) (fun _ => True) := by
  refine fn_intro Try.func18 Try.ntmps18 rfl rfl rfl (fun w0 => ?_)
  try simp only [List.cons_append, List.nil_append, List.append_nil]
  by_cases h1 : b = 61 <;> by_cases h2 : a = 58 <;> by_cases h3 : a = 60 <;> by_cases h4 : a = 62 <;> by_cases h5 : b = 62
  all_goals first | (exfalso; omega) | skip
  all_goals
    refine rr ?_
    refine we () [] trivial (hv := ?_)
    simp [twoI, packR, *]
theorem ones_idx (c : UInt8) (k : Nat) (hk : onesL[k]? = some c) : onesL.contains c = true := by
  simp only [List.contains_iff_mem]
  exact List.mem_of_getElem? hk
set_option maxHeartbeats 1000000 in
theorem rOneC (b : UInt8) : FnC (α := Unit) Try.prog 17 [.int .u8 (b.toNat : Int)] [] [] (fun _ => .bool (onesL.contains b)) (fun _ => []) (fun _ => True) := by
  refine fn_intro Try.func17 Try.ntmps17 rfl rfl rfl (fun w0 => ?_)
  try simp only [List.cons_append, List.nil_append, List.append_nil]
  refine rr ?_
  refine w_loop (α := Nat) (fun k => [(0, .int .u8 (b.toNat : Int)), (3, .string (bs onesL)), (4, .int .i64 (k : Int))]) (fun _ => []) (fun k => k ≤ 14 ∧ ∀ j, j < k → onesL[j]? ≠ some b) (fun k => 14 - k) 0 ⟨rfl, rfl, rfl, trivial⟩ rfl ⟨by decide, by omega⟩ ?_
  rintro k ⟨hk, hall⟩ K1 hK1
  have hsz : (bs onesL).size = 14 := rfl
  by_cases hlt : k < 14
  · obtain ⟨c, hc⟩ := get_some (l := onesL) (i := k) hlt
    have hc' : (bs onesL)[(k : Int).toNat]? = some c := by
      rw [show (k : Int).toNat = k by omega]; exact txt_get _ _ c (by rw [txt_bs]; exact hc)
    by_cases he : c = b
    · subst he
      have h1 : ((c.toNat : Int) == (c.toNat : Int)) = true := by simp
      refine rr ?_
      rw [h1]
      refine rr ?_
      refine we () [] trivial (hv := ?_)
      rw [ones_idx c k hc]; rfl
    · have h1 : ((c.toNat : Int) == (b.toNat : Int)) = false := by
        simp only [beq_eq_false_iff_ne, ne_eq]
        intro h; apply he; apply UInt8.toNat_inj.1; omega
      refine rr ?_
      rw [h1]
      refine rr ?_
      refine w_round hK1 (k + 1) ⟨by omega, fun j hj => ?_⟩ (by show 14 - (k + 1) < 14 - k; omega) rfl ⟨rfl, rfl, rfl, trivial⟩
      by_cases hjk : j = k
      · subst hjk; rw [hc]; simpa using he
      · exact hall j (by omega)
  · refine rr ?_
    refine we () [] trivial (hv := ?_)
    have : onesL.contains b = false := by
      cases h : onesL.contains b with
      | false => rfl
      | true =>
        simp only [List.contains_iff_mem] at h
        obtain ⟨j, hj, hb⟩ := List.mem_iff_getElem.1 h
        exact absurd (by simp [hj, hb]) (hall j (by simp [onesL] at hj; omega))
    rw [this]; rfl
end Go.Proofs.Yteafgnbkeghmdaa

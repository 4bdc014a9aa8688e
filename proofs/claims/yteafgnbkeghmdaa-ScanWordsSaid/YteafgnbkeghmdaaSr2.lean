/- The document's scan: plain facts about its loops. -/
import Derived.Test.YteafgnbkeghmdaaSr1
namespace Go.Proofs.Yteafgnbkeghmdaa
open Go Go.Sx Go.Sx.Chunk
set_option linter.unusedVariables false
set_option linter.unusedSimpArgs false

/-- Digits, without an end. -/
def satL : List UInt8 → Int → Int
  | [], n => n
  | b :: l, n => satL l (if n < 100000 then 10 * n + ((b.toNat : Int) - 48) else n)
theorem satL_big : ∀ (l : List UInt8) (n : Int), (∀ b ∈ l, isDigit (b.toNat : Int) = true) → 32767 < n → 32767 < satL l n
  | [], n, _, h => h
  | b :: l, n, hd, h => by
    have hb := hd b (by simp)
    simp only [isDigit, Bool.and_eq_true, decide_eq_true_eq] at hb
    refine satL_big l _ (fun c hc => hd c (by simp [hc])) ?_
    split <;> omega
theorem satL_num : ∀ (l : List UInt8) (n : Int), (∀ b ∈ l, isDigit (b.toNat : Int) = true) → 0 ≤ n → n ≤ 32767 → (numL l n < 0 ∧ 32767 < satL l n) ∨ (0 ≤ numL l n ∧ satL l n = numL l n ∧ numL l n ≤ 32767)
  | [], n, _, h0, h1 => .inr ⟨h0, rfl, h1⟩
  | b :: l, n, hd, h0, h1 => by
    have hb := hd b (by simp)
    simp only [isDigit, Bool.and_eq_true, decide_eq_true_eq] at hb
    simp only [numL, satL]
    rw [if_pos (show n < 100000 by omega)]
    by_cases hbig : 10 * n + ((b.toNat : Int) - 48) > 32767
    · rw [if_pos hbig]
      exact .inl ⟨by decide, satL_big l _ (fun c hc => hd c (by simp [hc])) hbig⟩
    · rw [if_neg hbig]
      exact satL_num l _ (fun c hc => hd c (by simp [hc])) (by omega) (by omega)
theorem runL_step {p : Int → Bool} {l : List UInt8} {q : Nat} {b : UInt8} (hb : l[q]? = some b) : runL p (l.drop q) = if p (b.toNat : Int) then runL p (l.drop (q + 1)) + 1 else 0 := by
  rw [drop_cons hb]; rfl
theorem idx_step {l : List UInt8} {q : Nat} {b c : UInt8} (hb : l[q]? = some b) : Lib.indexByte (l.drop q) c = if b == c then 0 else if Lib.indexByte (l.drop (q + 1)) c == -1 then -1 else Lib.indexByte (l.drop (q + 1)) c + 1 := by
  rw [drop_cons hb]; rfl
theorem take_succ_drop {l : List UInt8} {p k : Nat} {b : UInt8} (hb : l[p + k]? = some b) : (l.drop p).take (k + 1) = (l.drop p).take k ++ [b] := by
  rw [List.take_add_one]
  congr 1
  rw [List.getElem?_drop, hb]; rfl
theorem low_yes {b : UInt8} (h : 65 ≤ b.toNat ∧ b.toNat ≤ 90) : ((lowB b).toNat : Int) = (b.toNat : Int) + 32 := by
  rw [lowB_yes h]; omega
theorem low_no {b : UInt8} (h : ¬ (65 ≤ b.toNat ∧ b.toNat ≤ 90)) : lowB b = b := by unfold lowB; rw [if_neg h]
theorem two_ones {a b : UInt8} (h : two a b = true) : onesL.contains a = true := by
  unfold two at h
  simp only [Bool.or_eq_true, Bool.and_eq_true, beq_iff_eq] at h
  rcases h with ⟨_, (rfl | rfl) | rfl⟩ | ⟨rfl, _⟩ <;> decide
theorem bl_snoc {l : List UInt8} {p q : Nat} {c : UInt8} {v : Value} (hpq : p ≤ q) (hc : l[q]? = some c) (hv : v = .int .u8 ((lowB c).toNat : Int)) : bl (((l.drop p).take (q - p)).map lowB) ++ [v] = bl (((l.drop p).take (q + 1 - p)).map lowB) := by
  rw [show q + 1 - p = (q - p) + 1 by omega, take_succ_drop (b := c) (by rw [show p + (q - p) = q by omega]; exact hc), hv]
  simp [bl]
theorem signR_two {l : List UInt8} {p : Nat} {b d : UInt8} (hb : l[p]? = some b) (hd : l[p + 1]? = some d) (h : two b d = true) : signR (l.drop p) = 2 := by
  rw [drop_cons hb, drop_cons hd]; simp only [signR, h, if_true]
theorem signR_one {l : List UInt8} {p : Nat} {b : UInt8} (hb : l[p]? = some b) (hc : onesL.contains b = true) (h : ∀ d, l[p + 1]? = some d → two b d = false) : signR (l.drop p) = 1 := by
  rw [drop_cons hb]
  cases hd : l[p + 1]? with
  | none => rw [List.drop_of_length_le (List.getElem?_eq_none_iff.1 hd)]; simp only [signR, hc, if_true]
  | some d => rw [drop_cons hd]; simp only [signR, h d hd, hc, if_true, Bool.false_eq_true, if_false]
theorem signR_none {l : List UInt8} {p : Nat} {b : UInt8} (hb : l[p]? = some b) (hc : onesL.contains b = false) : signR (l.drop p) = 0 := by
  rw [drop_cons hb]
  cases hd : l[p + 1]? with
  | none => rw [List.drop_of_length_le (List.getElem?_eq_none_iff.1 hd)]; simp only [signR, hc, Bool.false_eq_true, if_false]
  | some d =>
    rw [drop_cons hd]
    have h2 : two b d = false := by
      cases h : two b d with
      | false => rfl
      | true => rw [two_ones h] at hc; cases hc
    simp only [signR, h2, hc, Bool.false_eq_true, if_false]
end Go.Proofs.Yteafgnbkeghmdaa

/- Contracts of package scan: numbers, signs, small letters. -/
import Derived.Test.YteafgnbkeghmdaaSn3
namespace Go.Proofs.Yteafgnbkeghmdaa
open Go Go.Sx Go.Sx.Chunk
set_option linter.unusedVariables false
set_option linter.unusedSimpArgs false

/-- What digits mean; -1: too great. -/
def numL : List UInt8 → Int → Int
  | [], n => n
  | b :: l, n => if 10 * n + ((b.toNat : Int) - 48) > 32767 then -1 else numL l (10 * n + ((b.toNat : Int) - 48))
set_option maxHeartbeats 4000000 in
theorem numberC (s : ByteArray) (hs : s.size ≤ maxLen) (hd : ∀ b ∈ txt s, isDigit (b.toNat : Int) = true) :
    FnC (α := Unit) Try.prog 25 [.string s] [] [] (fun _ => .int .i64 (numL (txt s) 0)) (fun _ => []) (fun _ => True) := by
  unfold maxLen at hs
  refine fn_intro Try.func25 Try.ntmps25 rfl rfl rfl (fun w0 => ?_)
  try simp only [List.cons_append, List.nil_append, List.append_nil]
  refine rr ?_
  refine w_loop (α := Nat × Int) (fun x => [(0, .string s), (3, .int .i64 x.2), (6, .int .i64 s.size), (7, .int .i64 (x.1 : Int))]) (fun _ => []) (fun x => x.1 ≤ s.size ∧ 0 ≤ x.2 ∧ x.2 ≤ 32767 ∧ numL (txt s) 0 = numL ((txt s).drop x.1) x.2) (fun x => s.size - x.1) (0, 0) ⟨rfl, rfl, rfl, rfl, trivial⟩ rfl ⟨Nat.zero_le _, by decide, by decide, by simp⟩ ?_
  rintro ⟨k, v⟩ ⟨hk, h0, h1, hr⟩ K1 hK1
  dsimp only at hk h0 h1 hr ⊢
  by_cases hlt : k < s.size
  · obtain ⟨b, hb⟩ := get_some (l := txt s) (i := k) (by rw [txt_len]; exact hlt)
    have hb' : s[(k : Int).toNat]? = some b := by
      rw [show (k : Int).toNat = k by omega]; exact txt_get s _ b hb
    have hdig : isDigit (b.toNat : Int) = true := hd b (List.mem_of_getElem? hb)
    simp only [isDigit, Bool.and_eq_true, decide_eq_true_eq] at hdig
    rw [drop_cons hb] at hr
    simp only [numL] at hr
    by_cases hbig : 10 * v + ((b.toNat : Int) - 48) > 32767
    · rw [if_pos hbig] at hr
      refine rr ?_
      refine we () [] trivial (hv := ?_)
      simp only [packR, hr]
    · rw [if_neg hbig] at hr
      refine rr ?_
      refine w_round hK1 (k + 1, 10 * v + ((b.toNat : Int) - 48)) ⟨by show k + 1 ≤ s.size; omega, by show 0 ≤ 10 * v + ((b.toNat : Int) - 48); omega, by show 10 * v + ((b.toNat : Int) - 48) ≤ 32767; omega, hr⟩ (by show s.size - (k + 1) < s.size - k; omega) rfl ⟨rfl, rfl, rfl, rfl, trivial⟩
  · refine rr ?_
    refine we () [] trivial (hv := ?_)
    rw [hr, List.drop_of_length_le (by rw [txt_len]; omega)]
    simp [packR, numL]
end Go.Proofs.Yteafgnbkeghmdaa

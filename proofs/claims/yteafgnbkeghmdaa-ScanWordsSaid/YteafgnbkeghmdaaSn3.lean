/- Contracts of package scan: runs, numbers. -/
import Derived.Test.YteafgnbkeghmdaaSn2
namespace Go.Proofs.Yteafgnbkeghmdaa
open Go Go.Sx Go.Sx.Chunk
set_option linter.unusedVariables false
set_option linter.unusedSimpArgs false

/-- A text's bytes. -/
def txt (s : ByteArray) : List UInt8 := s.data.toList
theorem txt_len (s : ByteArray) : (txt s).length = s.size := by simp [txt]
theorem txt_get (s : ByteArray) (i : Nat) (b : UInt8) (h : (txt s)[i]? = some b) : s[i]? = some b := by
  have hi : i < s.size := by rw [← txt_len]; exact (List.getElem?_eq_some_iff.1 h).1
  simp only [txt] at h
  rw [getElem?_pos s i hi]
  simp only [Array.getElem?_toList] at h
  rw [← h]
  simp [ByteArray.getElem_eq_getElem_data, hi]
theorem drop_cons {l : List UInt8} {i : Nat} {b : UInt8} (h : l[i]? = some b) : l.drop i = b :: l.drop (i + 1) := by
  obtain ⟨hi, hb⟩ := List.getElem?_eq_some_iff.1 h
  rw [List.drop_eq_getElem_cons hi, hb]
theorem get_some {l : List UInt8} {i : Nat} (h : i < l.length) : ∃ b, l[i]? = some b := ⟨l[i], by simp [h]⟩
/-- How many of the first bytes are such. -/
def runL (p : Int → Bool) : List UInt8 → Nat
  | [] => 0
  | b :: l => if p (b.toNat : Int) then runL p l + 1 else 0
theorem runL_le (p : Int → Bool) : ∀ l, runL p l ≤ l.length
  | [] => Nat.le_refl _
  | b :: l => by
    simp only [runL]
    split
    · have := runL_le p l; simp; omega
    · simp

set_option maxHeartbeats 4000000 in
theorem runC (s : ByteArray) (a : Nat) (f : FuncId) (p : Int → Bool) (hp : ∀ c, FnC (α := Unit) Try.prog f [.int .u8 c] [] [] (fun _ => .bool (p c)) (fun _ => []) (fun _ => True)) (ha : a ≤ s.size) (hs : s.size ≤ maxLen) :
    FnC (α := Unit) Try.prog 21 [.string s, .int .i64 a, .func (.func f) #[] #[]] [] [] (fun _ => .int .i64 (runL p ((txt s).drop a))) (fun _ => []) (fun _ => True) := by
  unfold maxLen at hs
  refine fn_intro Try.func21 Try.ntmps21 rfl rfl rfl (fun w0 => ?_)
  try simp only [List.cons_append, List.nil_append, List.append_nil]
  refine rr ?_
  refine w_loop (α := Nat) (fun k => [(0, .string s), (1, .int .i64 a), (2, .func (.func f) #[] #[]), (7, .int .i64 (k : Int))]) (fun _ => []) (fun k => a + k ≤ s.size ∧ runL p ((txt s).drop a) = k + runL p ((txt s).drop (a + k))) (fun k => s.size - (a + k)) 0 ⟨rfl, rfl, rfl, rfl, trivial⟩ rfl ⟨ha, by simp⟩ ?_
  rintro k ⟨hk, hr⟩ K1 hK1
  by_cases hlt : a + k < s.size
  · obtain ⟨b, hb⟩ := get_some (l := txt s) (i := a + k) (by rw [txt_len]; exact hlt)
    have hb' : s[((a : Int) + (k : Int)).toNat]? = some b := by
      rw [show ((a : Int) + (k : Int)).toNat = a + k by omega]; exact txt_get s _ b hb
    rw [drop_cons hb] at hr
    simp only [runL] at hr
    refine rr ?_
    refine cav [] (hp (b.toNat : Int)) ?_
    intro x hx
    try simp only [List.cons_append, List.nil_append, List.append_nil]
    cases hpb : p (b.toNat : Int) with
    | true =>
      rw [hpb] at hr
      refine rr ?_
      refine w_round hK1 (k + 1) ⟨by omega, ?_⟩ (by show s.size - (a + (k + 1)) < s.size - (a + k); omega) rfl ⟨rfl, rfl, rfl, rfl, trivial⟩
      rw [hr, if_pos rfl, Nat.add_assoc a k 1]; omega
    | false =>
      rw [hpb] at hr
      refine rr ?_
      refine we () [] trivial (hv := ?_)
      simp only [packR, hr]
      simp
  · refine rr ?_
    refine we () [] trivial (hv := ?_)
    rw [hr, List.drop_of_length_le (by rw [txt_len]; omega)]
    simp [packR, runL]
end Go.Proofs.Yteafgnbkeghmdaa

/- Contracts of package scan: small letters. -/
import Derived.Test.YteafgnbkeghmdaaSn4
namespace Go.Proofs.Yteafgnbkeghmdaa
open Go Go.Sx Go.Sx.Chunk
set_option linter.unusedVariables false
set_option linter.unusedSimpArgs false

def bl (l : List UInt8) : List Value := l.map fun b => .int .u8 (b.toNat : Int)
theorem bl_len (l : List UInt8) : (bl l).length = l.length := by simp [bl]
theorem bl_get {l : List UInt8} {i : Nat} {b : UInt8} (h : l[i]? = some b) : (bl l)[i]? = some (.int .u8 (b.toNat : Int)) := by simp [bl, h]
/-- A small letter for a capital. -/
def lowB (b : UInt8) : UInt8 := if 65 ≤ b.toNat ∧ b.toNat ≤ 90 then b + 32 else b
def lowS (s : ByteArray) : ByteArray := ⟨((txt s).map lowB).toArray⟩
theorem lowB_yes {b : UInt8} (h : 65 ≤ b.toNat ∧ b.toNat ≤ 90) : ((lowB b).toNat : Int) = (b.toNat : Int) - 65 + 97 := by
  unfold lowB
  rw [if_pos h]
  have : (b + 32).toNat = (b.toNat + 32) % 256 := by simp [UInt8.toNat_add]
  omega
def lowK (l : List UInt8) (k : Nat) : List UInt8 := (l.take k).map lowB ++ l.drop k
theorem lowK_len (l : List UInt8) (k : Nat) : (lowK l k).length = l.length := by simp [lowK]; omega
theorem lowK_get {l : List UInt8} {k : Nat} {b : UInt8} (h : l[k]? = some b) : (lowK l k)[k]? = some b := by
  have hk : k < l.length := (List.getElem?_eq_some_iff.1 h).1
  unfold lowK
  rw [List.getElem?_append_right (by simp; omega)]
  simp [Nat.min_eq_left (Nat.le_of_lt hk), h]
theorem lowK_succ {l : List UInt8} {k : Nat} {b : UInt8} (h : l[k]? = some b) : lowK l (k + 1) = (lowK l k).set k (lowB b) := by
  obtain ⟨hk, hb⟩ := List.getElem?_eq_some_iff.1 h
  unfold lowK
  have hm : ((l.take k).map lowB).length = k := by simp; omega
  rw [List.take_succ_eq_append_getElem hk, hb, List.set_append_right _ _ (by omega), hm, Nat.sub_self, drop_cons h]
  simp
set_option maxHeartbeats 4000000 in
theorem lowerC (s : ByteArray) (hs : s.size ≤ maxLen) :
    FnC (α := Unit) Try.prog 24 [.string s] [] [] (fun _ => .string (lowS s)) (fun _ => []) (fun _ => True) := by
  unfold maxLen at hs
  refine fn_intro Try.func24 Try.ntmps24 rfl rfl rfl (fun w0 => ?_)
  try simp only [List.cons_append, List.nil_append, List.append_nil]
  refine rr ?_
  rintro ⟨p, c⟩ ⟨hc, hm⟩
  dsimp only at hc hm ⊢
  have hm := hm (by unfold maxLen; omega)
  unfold maxLen at hm
  generalize List.replicate (c - s.size) (Value.int .u8 0) = rest
  refine rr ?_
  refine w_loop (α := Nat) (fun k => [(3, .slice (some ⟨p, 0, none⟩) s.size c), (8, .slice (some ⟨p, 0, none⟩) s.size c), (9, .int .i64 s.size), (10, .int .i64 (k : Int))]) (fun k => [fro p (bl (lowK (txt s) k) ++ rest) 5]) (fun k => k ≤ s.size) (fun k => s.size - k) 0 ⟨rfl, rfl, rfl, rfl, trivial⟩ rfl (Nat.zero_le _) ?_
  rintro k hk K1 hK1
  by_cases hlt : k < s.size
  · obtain ⟨b, hb⟩ := get_some (l := txt s) (i := k) (by rw [txt_len]; exact hlt)
    have hcell : (bl (lowK (txt s) k) ++ rest)[0 + (k : Int).toNat * 1]? = some (.int .u8 (b.toNat : Int)) := by
      rw [show 0 + (k : Int).toNat * 1 = k by omega, List.getElem?_append_left (by rw [bl_len, lowK_len, txt_len]; exact hlt)]
      exact bl_get (lowK_get hb)
    have hlen : 0 + (k : Int).toNat * 1 < (bl (lowK (txt s) k) ++ rest).length := (List.getElem?_eq_some_iff.1 hcell).1
    have hb255 : b.toNat < 256 := b.toNat_lt
    have hset : ∀ v, v = Value.int .u8 ((lowB b).toNat : Int) → (bl (lowK (txt s) k) ++ rest).set (0 + (k : Int).toNat * 1) v = bl (lowK (txt s) (k + 1)) ++ rest := by
      intro v hv
      rw [hv, show 0 + (k : Int).toNat * 1 = k by omega, List.set_append_left _ _ (by rw [bl_len, lowK_len, txt_len]; exact hlt), lowK_succ hb]
      simp [bl, List.map_set]
    by_cases hcap : 65 ≤ b.toNat ∧ b.toNat ≤ 90
    · refine rr ?_
      refine w_round hK1 (k + 1) (by show k + 1 ≤ s.size; omega) (by show s.size - (k + 1) < s.size - k; omega) ?_ ⟨rfl, rfl, rfl, rfl, trivial⟩
      show [fro p _ 5] = [fro p _ 5]
      rw [hset _ (by rw [lowB_yes hcap])]
    · have hno : lowB b = b := by unfold lowB; rw [if_neg hcap]
      have hsame : bl (lowK (txt s) (k + 1)) ++ rest = bl (lowK (txt s) k) ++ rest := by
        obtain ⟨hi, hv⟩ := List.getElem?_eq_some_iff.1 hcell
        rw [← hset _ (by rw [hno]), ← hv, List.set_getElem_self]
      by_cases h65 : 65 ≤ b.toNat
      · refine rr ?_
        refine w_round hK1 (k + 1) (by show k + 1 ≤ s.size; omega) (by show s.size - (k + 1) < s.size - k; omega) (by rw [hsame]) ⟨rfl, rfl, rfl, rfl, trivial⟩
      · refine rr ?_
        refine w_round hK1 (k + 1) (by show k + 1 ≤ s.size; omega) (by show s.size - (k + 1) < s.size - k; omega) (by rw [hsame]) ⟨rfl, rfl, rfl, rfl, trivial⟩
  · obtain rfl : k = s.size := by omega
    have hall : bl (lowK (txt s) s.size) ++ rest = bytC (lowS s) ++ rest := by
      congr 1
      unfold lowK
      rw [List.take_of_length_le (by rw [txt_len]; omega), List.drop_of_length_le (by rw [txt_len]; omega)]
      simp [bl, bytC, lowS]
    have hsz : s.size = (lowS s).size := by
      show s.size = ((txt s).map lowB).toArray.size
      simp [txt_len]
    rw [hall]
    refine rr ?_
    exact we () [] trivial
end Go.Proofs.Yteafgnbkeghmdaa

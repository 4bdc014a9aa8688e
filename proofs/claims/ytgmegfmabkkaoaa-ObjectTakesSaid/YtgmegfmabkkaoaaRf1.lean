/- The reference's bytes. -/
import Derived.Test.YtgmegfmabkkaoaaPr2
namespace Go.Proofs.Ytgmegfmabkkaoaa
open Go Go.Sx Go.Sx.Chunk
set_option linter.unusedVariables false
set_option linter.unusedSimpArgs false

theorem b8_mod (n : Int) : b8 (n % 256) = b8 n := by unfold b8; rw [Int.emod_emod_of_dvd n (by decide)]
theorem oneRC (n : Int) : FnC (α := Unit) Try.prog 43 [.int .i64 n] [] [] (fun _ => .string (mkB [b8 n])) (fun _ => []) (fun _ => True) := by
  have hcs : [Value.int .u8 (IntKind.u8.wrap n)] = bytC (mkB [b8 n]) ++ [] := by rw [wrap_u8]; rfl
  have hn := b8_nat n
  refine fn_intro Try.func43 Try.ntmps43 rfl rfl rfl (fun w0 => ?_)
  try simp only [List.cons_append, List.nil_append, List.append_nil]
  by_cases hr : 0 ≤ n ∧ n ≤ 255
  · have hcs2 : [Value.int .u8 n] = bytC (mkB [b8 n]) ++ [] := by
      have : n = ((b8 n).toNat : Int) := by omega
      rw [bytC_txt, txt_mkB]
      show [Value.int .u8 n] = [Value.int .u8 ((b8 n).toNat : Int)]
      rw [← this]
    refine rr ?_
    intro b5 _
    refine rr ?_
    exact en () trivial
  · refine rr ?_
    intro b5 _
    refine rr ?_
    exact en () trivial
theorem fourRC (n : Int) (hn : 0 ≤ n ∧ n < 4294967296) : FnC (α := Unit) Try.prog 41 [.int .i64 n] [] [] (fun _ => .string (mkB (fourB n))) (fun _ => []) (fun _ => True) := by
  refine fn_intro Try.func41 Try.ntmps41 rfl rfl rfl (fun w0 => ?_)
  try simp only [List.cons_append, List.nil_append, List.append_nil]
  refine rr ?_
  refine cl (oneRC (n % 256)) ?_
  intro _ _
  try simp only [List.cons_append, List.nil_append, List.append_nil]
  refine rr ?_
  refine cl (oneRC (n / 256 % 256)) ?_
  intro _ _
  try simp only [List.cons_append, List.nil_append, List.append_nil]
  refine rr ?_
  refine cl (oneRC (n / 65536 % 256)) ?_
  intro _ _
  try simp only [List.cons_append, List.nil_append, List.append_nil]
  refine rr ?_
  refine cl (oneRC (n / 16777216 % 256)) ?_
  intro _ _
  try simp only [List.cons_append, List.nil_append, List.append_nil]
  refine rr ?_
  refine en () trivial (hv := ?_)
  rw [mkB_app, mkB_app, mkB_app, b8_mod, b8_mod, b8_mod, b8_mod]
  rfl
theorem nameRfC (s : ByteArray) (hs : s.size ≤ 1000000) : FnC (α := Unit) Try.prog 40 [.string s] [] [] (fun _ => .string (mkB (nameB s))) (fun _ => []) (fun _ => True) := by
  refine fn_intro Try.func40 Try.ntmps40 rfl rfl rfl (fun w0 => ?_)
  try simp only [List.cons_append, List.nil_append, List.append_nil]
  refine rr ?_
  refine cl (oneRC (s.size : Int)) ?_
  intro _ _
  try simp only [List.cons_append, List.nil_append, List.append_nil]
  refine rr ?_
  refine en () trivial (hv := ?_)
  show Value.string (mkB [b8 (s.size : Int)] ++ s) = _
  have : mkB [b8 (s.size : Int)] ++ mkB (txt s) = mkB (nameB s) := mkB_app _ _
  rw [mkB_txt] at this
  rw [this]
/-- The number at a place; -1: it is not there. -/
def numP (l : List UInt8) (at_ : Int) (k : Nat) : Int := if at_ < 0 ∨ (l.length : Int) < at_ + k then -1 else leN ((l.drop at_.toNat).take k)
theorem leN_drop {l : List UInt8} {i : Nat} {c : UInt8} (h : l[i]? = some c) : leN (l.drop i) = (c.toNat : Int) + 256 * leN (l.drop (i + 1)) := by
  obtain ⟨hi, hb⟩ := List.getElem?_eq_some_iff.1 h
  rw [List.drop_eq_getElem_cons hi, hb]
  rfl
theorem mkB_at {l : List UInt8} {i : Nat} {c : UInt8} (h : l[i]? = some c) : (mkB l)[i]? = some c := txt_at (mkB l) i c (by rw [txt_mkB]; exact h)
theorem numRfC (l : List UInt8) (at_ : Int) (k : Nat) (hk : 1 ≤ k ∧ k ≤ 4) (ha : -10 ≤ at_ ∧ at_ ≤ 100000000000) (hl : l.length ≤ 1000000) : FnC (α := Unit) Try.prog 45 [.string (mkB l), .int .i64 at_, .int .i64 (k : Int)] [] [] (fun _ => .int .i64 (numP l at_ k)) (fun _ => []) (fun _ => True) := by
  have hsz := mkB_size l
  unfold numP
  refine fn_intro Try.func45 Try.ntmps45 rfl rfl rfl (fun w0 => ?_)
  try simp only [List.cons_append, List.nil_append, List.append_nil]
  by_cases h1 : at_ < 0
  · rw [if_pos (.inl h1)]
    refine rr ?_
    exact en () trivial
  by_cases h2 : (l.length : Int) < at_ + k
  · rw [if_pos (.inr h2)]
    refine rr ?_
    exact en () trivial
  rw [if_neg (by omega)]
  obtain ⟨a, rfl⟩ : ∃ a : Nat, at_ = (a : Int) := ⟨at_.toNat, by omega⟩
  rw [Int.toNat_natCast]
  generalize hw : (l.drop a).take k = w
  have hwl : w.length = k := by rw [← hw]; simp; omega
  refine rr ?_
  refine lo [0, 1] (fun j : Nat => [(7, .int .i64 (leN (w.drop (k - j)))), (8, .int .i64 ((k : Int) - 1 - j))]) (fun i => []) (fun j => j ≤ k) (fun j => k - j) 0 (by omega) ?_ (hE := ?_)
  rotate_left
  · rw [Nat.sub_zero, List.drop_of_length_le (by omega), show (k : Int) - 1 - ((0 : Nat) : Int) = (k : Int) - 1 by omega]
    exact (by repeat (first | exact env_nil | (apply env_cons; exact rfl)))
  intro j hj K1 hK1
  by_cases hlt : j < k
  · obtain ⟨c, hc⟩ := some_at (l := w) (k := k - 1 - j) (by omega)
    have hcl : l[((a : Int) + ((k : Int) - 1 - j)).toNat]? = some c := by
      rw [← hw, List.getElem?_take, if_pos (by omega), List.getElem?_drop] at hc
      rw [show ((a : Int) + ((k : Int) - 1 - j)).toNat = a + (k - 1 - j) by omega]
      exact hc
    have hcb := mkB_at hcl
    have hcn : c.toNat < 256 := c.toNat_lt
    have hd := leN_drop hc
    rw [show k - 1 - j + 1 = k - j by omega] at hd
    have hrg := leN_range (w.drop (k - j))
    have hj4 : (w.drop (k - j)).length = 0 ∨ (w.drop (k - j)).length = 1 ∨ (w.drop (k - j)).length = 2 ∨ (w.drop (k - j)).length = 3 := by simp; omega
    have hrg2 : 0 ≤ leN (w.drop (k - j)) ∧ leN (w.drop (k - j)) < 16777216 := by
      rcases hj4 with h | h | h | h <;> rw [h] at hrg <;> omega
    refine rr ?_
    refine ro hK1 (j + 1) (by omega) (hE := ?_)
    rw [show k - (j + 1) = k - 1 - j by omega, hd, show (k : Int) - 1 - ((j + 1 : Nat) : Int) = (k : Int) - 1 - j - 1 by omega, Int.add_comm]
    exact (by repeat (first | exact env_nil | (apply env_cons; exact rfl)))
  · obtain rfl : j = k := by omega
    rw [Nat.sub_self, List.drop_zero]
    refine rr ?_
    exact en () trivial
/-- A text with its length ahead, and the place behind. -/
def textP (l : List UInt8) (at_ : Int) : List UInt8 × Int :=
  if numP l at_ 1 < 0 ∨ (l.length : Int) < at_ + 1 + numP l at_ 1 then ([], -1) else ((l.drop (at_ + 1).toNat).take (numP l at_ 1).toNat, at_ + 1 + numP l at_ 1)
theorem numP_range (l : List UInt8) (at_ : Int) (k : Nat) (hk : k = 1 ∨ k = 4) : -1 ≤ numP l at_ k ∧ numP l at_ k < 4294967296 ∧ (k = 1 → numP l at_ k < 256) := by
  unfold numP
  split
  · omega
  · have h1 := leN_range ((l.drop at_.toNat).take k)
    have h2 : ((l.drop at_.toNat).take k).length ≤ k := by simp; omega
    have h3 : ((l.drop at_.toNat).take k).length = 0 ∨ ((l.drop at_.toNat).take k).length = 1 ∨ ((l.drop at_.toNat).take k).length = 2 ∨ ((l.drop at_.toNat).take k).length = 3 ∨ ((l.drop at_.toNat).take k).length = 4 := by omega
    rcases h3 with h | h | h | h | h <;> rw [h] at h1 h2 <;> rcases hk with rfl | rfl <;> omega
theorem textRfC (l : List UInt8) (at_ : Int) (ha : -10 ≤ at_ ∧ at_ ≤ 100000000000) (hl : l.length ≤ 1000000) : FnC (α := Unit) Try.prog 44 [.string (mkB l), .int .i64 at_] [] [] (fun _ => .tuple #[.string (mkB (textP l at_).1), .int .i64 (textP l at_).2]) (fun _ => []) (fun _ => True) := by
  have hsz := mkB_size l
  have hr := numP_range l at_ 1 (.inl rfl)
  have hr1 := hr.2.2 rfl
  unfold textP
  refine fn_intro Try.func44 Try.ntmps44 rfl rfl rfl (fun w0 => ?_)
  try simp only [List.cons_append, List.nil_append, List.append_nil]
  refine rr ?_
  refine cl (numRfC l at_ 1 (by omega) ha hl) ?_
  intro _ _
  try simp only [List.cons_append, List.nil_append, List.append_nil]
  generalize hn : numP l at_ 1 = n at hr hr1
  by_cases h1 : n < 0
  · rw [if_pos (.inl h1)]
    refine rr ?_
    exact en () trivial
  by_cases h2 : (l.length : Int) < at_ + 1 + n
  · rw [if_pos (.inr h2)]
    refine rr ?_
    exact en () trivial
  rw [if_neg (by omega)]
  have ha0 : 0 ≤ at_ := by
    unfold numP at hn
    split at hn
    · omega
    · omega
  have hx := mkB_ext l (at_ + 1).toNat (at_ + 1 + n).toNat
  rw [show (at_ + 1 + n).toNat - (at_ + 1).toNat = n.toNat by omega] at hx
  refine rr ?_
  rw [hx]
  exact en () trivial
end Go.Proofs.Ytgmegfmabkkaoaa

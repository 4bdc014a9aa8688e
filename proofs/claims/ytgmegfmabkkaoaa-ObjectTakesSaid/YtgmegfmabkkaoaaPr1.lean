/- Bytes that are read: the reader's methods. -/
import Derived.Test.YtgmegfmabkkaoaaPw3
namespace Go.Proofs.Ytgmegfmabkkaoaa
open Go Go.Sx Go.Sx.Chunk
set_option linter.unusedVariables false
set_option linter.unusedSimpArgs false

/-- What a reader has left, and whether something was not there. -/
abbrev RS := List UInt8 × Bool
def cutS (n : Nat) (s : RS) : List UInt8 × RS := if n ≤ s.1.length then (s.1.take n, (s.1.drop n, s.2)) else ([], ([], true))
def leN : List UInt8 → Int
  | [] => 0
  | c :: l => (c.toNat : Int) + 256 * leN l
def numS (k : Nat) (s : RS) : Int × RS := (leN (cutS k s).1, (cutS k s).2)
def nameS (s : RS) : List UInt8 × RS := cutS (numS 1 s).1.toNat (numS 1 s).2
def mostS (n b : Int) (s : RS) : Int × RS := if (s.1.length : Int) < n * b then (0, (s.1, true)) else (n, s)
def rdC (r : Nat) (s : RS) : Chunk := blk r [.string (mkB s.1), .bool s.2] 75
theorem cutS_len (n : Nat) (s : RS) : (cutS n s).1.length ≤ n ∧ (cutS n s).2.1.length ≤ s.1.length := by
  unfold cutS
  split <;> simp <;> omega
theorem cutC (r : Nat) (s : RS) (n : Nat) (hl : s.1.length ≤ 1000000000) : FnC (α := Unit) Try.prog 35 [.pointer (some ⟨r, 0, none⟩), .int .i64 (n : Int)] [rdC r s] [] (fun _ => .string (mkB (cutS n s).1)) (fun _ => [rdC r (cutS n s).2]) (fun _ => True) := by
  obtain ⟨l, bad⟩ := s
  unfold rdC cutS
  dsimp only at hl ⊢
  have hsz := mkB_size l
  refine fn_intro Try.func35 Try.ntmps35 rfl rfl rfl (fun w0 => ?_)
  try simp only [List.cons_append, List.nil_append, List.append_nil]
  by_cases h : n ≤ l.length
  · rw [if_pos h]
    have h1 : (mkB l).extract 0 ((n : Int).toNat) = mkB (l.take n) := mkB_take l n
    have h2 : (mkB l).extract ((n : Int).toNat) (mkB l).size = mkB (l.drop n) := mkB_drop l n
    refine rr ?_
    rw [h1, h2]
    exact en () trivial
  · rw [if_neg h]
    refine rr ?_
    exact en () trivial
theorem leN_snoc : ∀ (l : List UInt8) (c : UInt8), leN (l ++ [c]) = leN l + (c.toNat : Int) * 256 ^ l.length
  | [], c => by simp [leN]
  | a :: l, c => by
    simp only [List.cons_append, leN, leN_snoc l c, List.length_cons, Int.pow_succ, Int.mul_add]
    rw [Int.add_assoc]
    congr 2
    rw [← Int.mul_assoc, Int.mul_comm 256, Int.mul_assoc, Int.mul_comm 256]
theorem leN_range : ∀ (l : List UInt8), 0 ≤ leN l ∧ leN l < 256 ^ l.length
  | [] => by simp [leN]
  | a :: l => by
    have h := leN_range l
    have ha : a.toNat < 256 := a.toNat_lt
    simp only [leN, List.length_cons, Int.pow_succ]
    omega
theorem numRC (r : Nat) (s : RS) (k : Nat) (hk : k ≤ 4) (hl : s.1.length ≤ 1000000000) : FnC (α := Unit) Try.prog 38 [.pointer (some ⟨r, 0, none⟩), .int .i64 (k : Int)] [rdC r s] [] (fun _ => .int .i64 (numS k s).1) (fun _ => [rdC r (numS k s).2]) (fun _ => True) := by
  unfold numS
  dsimp only
  have hc := cutS_len k s
  refine fn_intro Try.func38 Try.ntmps38 rfl rfl rfl (fun w0 => ?_)
  try simp only [List.cons_append, List.nil_append, List.append_nil]
  refine rr ?_
  refine cl (cutC r s k hl) ?_
  intro _ _
  try simp only [List.cons_append, List.nil_append, List.append_nil]
  generalize (cutS k s).2 = s2
  generalize hx : (cutS k s).1 = x at hc
  have hsz := mkB_size x
  refine rr ?_
  rintro ⟨b11, c11⟩ ⟨h11, _⟩
  have hcell : ∀ (j : Nat) (c : UInt8), x[j]? = some c → (bytC (mkB x) ++ List.replicate (c11 - (mkB x).size) (Value.int .u8 0))[0 + (j : Int).toNat * 1]? = some (.int .u8 (c.toNat : Int)) := fun j c hj => by
    have hlt := (List.getElem?_eq_some_iff.1 hj).1
    rw [bytC_txt, txt_mkB, show 0 + (j : Int).toNat * 1 = j by omega, List.getElem?_append_left (by rw [u8C_len]; exact hlt)]
    simp [u8C, hj]
  have hbl : (bytC (mkB x) ++ List.replicate (c11 - (mkB x).size) (Value.int .u8 0)).length = x.length + (c11 - (mkB x).size) := by simp [bytC_txt, txt_mkB, u8C_len]
  refine rr ?_
  refine lo [11, 12] (fun i : Nat => [(5, .int .i64 (leN (x.take i))), (13, .int .i64 (i : Int))]) (fun i => []) (fun i => i ≤ x.length) (fun i => x.length - i) 0 (by omega) ?_
  intro i hi K1 hK1
  by_cases hlt : i < x.length
  · obtain ⟨c, hcx⟩ := some_at hlt
    have hh := hcell i c hcx
    have hr := leN_range (x.take i)
    have hcn : c.toNat < 256 := c.toNat_lt
    have hi4 : i = 0 ∨ i = 1 ∨ i = 2 ∨ i = 3 := by omega
    have hlen : (x.take i).length = i := by simp; omega
    have hstep : leN (x.take (i + 1)) = leN (x.take i) + (c.toNat : Int) * 256 ^ i := by rw [take_snoc hcx, leN_snoc, hlen]
    have hor : Go.bits .or .i64 (leN (x.take i)) (IntKind.i64.wrap ((c.toNat : Int) * 2 ^ min (8 * (i : Int)).toNat IntKind.i64.bits)) = leN (x.take (i + 1)) := by
      rw [hlen] at hr
      rw [hstep]
      have hsw : ∀ a b : Int, Go.bits .or .i64 a b = Go.bits .or .i64 b a := fun a b => by unfold Go.bits; dsimp only; rw [BitVec.or_comm]
      rcases hi4 with rfl | rfl | rfl | rfl
      · rw [show (2 : Int) ^ min (8 * ((0 : Nat) : Int)).toNat IntKind.i64.bits = 1 by decide, wrap_in (inK_i64 (by omega) (by omega)), hsw]
        have h00 : leN (x.take 0) = 0 := rfl
        rw [h00]
        rw [or_i64 0 _ _ (by omega) (by omega) (by omega) (by omega) (by omega) (by omega)]
        omega
      · rw [show (2 : Int) ^ min (8 * ((1 : Nat) : Int)).toNat IntKind.i64.bits = 256 by decide, wrap_in (inK_i64 (by omega) (by omega)), hsw]
        rw [or_i64 8 _ _ (by omega) (by omega) (by omega) (by omega) (by omega) (by omega)]
        omega
      · rw [show (2 : Int) ^ min (8 * ((2 : Nat) : Int)).toNat IntKind.i64.bits = 65536 by decide, wrap_in (inK_i64 (by omega) (by omega)), hsw]
        rw [or_i64 16 _ _ (by omega) (by omega) (by omega) (by omega) (by omega) (by omega)]
        omega
      · rw [show (2 : Int) ^ min (8 * ((3 : Nat) : Int)).toNat IntKind.i64.bits = 16777216 by decide, wrap_in (inK_i64 (by omega) (by omega)), hsw]
        rw [or_i64 24 _ _ (by omega) (by omega) (by omega) (by omega) (by omega) (by omega)]
        omega
    refine rr ?_
    refine ro hK1 (i + 1) (by omega) (hE := ?_)
    rw [← hor]
    exact (by repeat (first | exact env_nil | (apply env_cons; exact rfl)))
  · obtain rfl : i = x.length := by omega
    rw [List.take_length]
    refine rr ?_
    exact en () trivial
theorem num1 (s : RS) : 0 ≤ (numS 1 s).1 ∧ (numS 1 s).1 < 256 := by
  unfold numS
  dsimp only
  have h1 := leN_range (cutS 1 s).1
  have h2 := (cutS_len 1 s).1
  have h3 : (cutS 1 s).1.length = 0 ∨ (cutS 1 s).1.length = 1 := by omega
  rcases h3 with h | h <;> rw [h] at h1 <;> omega
theorem num4 (s : RS) : 0 ≤ (numS 4 s).1 ∧ (numS 4 s).1 < 4294967296 := by
  unfold numS
  dsimp only
  have h1 := leN_range (cutS 4 s).1
  have h2 := (cutS_len 4 s).1
  have h3 : (cutS 4 s).1.length = 0 ∨ (cutS 4 s).1.length = 1 ∨ (cutS 4 s).1.length = 2 ∨ (cutS 4 s).1.length = 3 ∨ (cutS 4 s).1.length = 4 := by omega
  rcases h3 with h | h | h | h | h <;> rw [h] at h1 <;> omega
theorem numS_len (k : Nat) (s : RS) : (numS k s).2.1.length ≤ s.1.length := (cutS_len k s).2
theorem nameS_len (s : RS) : (nameS s).2.1.length ≤ s.1.length := Nat.le_trans (cutS_len _ _).2 (numS_len 1 s)
theorem nameRC (r : Nat) (s : RS) (hl : s.1.length ≤ 1000000000) : FnC (α := Unit) Try.prog 36 [.pointer (some ⟨r, 0, none⟩)] [rdC r s] [] (fun _ => .string (mkB (nameS s).1)) (fun _ => [rdC r (nameS s).2]) (fun _ => True) := by
  unfold nameS
  have h1 := num1 s
  have h2 := numS_len 1 s
  obtain ⟨n, hn⟩ : ∃ n : Nat, (n : Int) = (numS 1 s).1 := ⟨(numS 1 s).1.toNat, by omega⟩
  have hn2 : (numS 1 s).1.toNat = n := by omega
  refine fn_intro Try.func36 Try.ntmps36 rfl rfl rfl (fun w0 => ?_)
  try simp only [List.cons_append, List.nil_append, List.append_nil]
  refine rr ?_
  refine cl (numRC r s 1 (by decide) hl) ?_
  intro _ _
  try simp only [List.cons_append, List.nil_append, List.append_nil]
  rw [hn2, ← hn]
  refine cl (cutC r (numS 1 s).2 n (by omega)) ?_
  intro _ _
  try simp only [List.cons_append, List.nil_append, List.append_nil]
  refine rr ?_
  exact en () trivial
theorem mostC (r : Nat) (s : RS) (n b : Int) (hn : 0 ≤ n ∧ n < 4294967296) (hb : 0 ≤ b ∧ b ≤ 10) (hl : s.1.length ≤ 1000000000) : FnC (α := Unit) Try.prog 37 [.pointer (some ⟨r, 0, none⟩), .int .i64 n, .int .i64 b] [rdC r s] [] (fun _ => .int .i64 (mostS n b s).1) (fun _ => [rdC r (mostS n b s).2]) (fun _ => True) := by
  have h0 : 0 ≤ n * b := Int.mul_nonneg hn.1 hb.1
  have h1 : n * b ≤ 4294967296 * 10 := Int.mul_le_mul (by omega) hb.2 hb.1 (by omega)
  generalize hp : n * b = p at h0 h1
  obtain ⟨l, bad⟩ := s
  unfold rdC mostS
  dsimp only at hl ⊢
  have hsz := mkB_size l
  refine fn_intro Try.func37 Try.ntmps37 rfl rfl rfl (fun w0 => ?_)
  try simp only [List.cons_append, List.nil_append, List.append_nil]
  refine rr ?_
  by_cases hc : (l.length : Int) < n * b
  · rw [if_pos hc]
    refine rr ?_
    exact en () trivial
  · rw [if_neg hc]
    refine rr ?_
    exact en () trivial
end Go.Proofs.Ytgmegfmabkkaoaa

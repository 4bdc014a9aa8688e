/- Contracts of package scan: signs. -/
import Derived.Test.YteafgnbkeghmdaaSn4
namespace Go.Proofs.Yteafgnbkeghmdaa
open Go Go.Sx Go.Sx.Chunk
set_option linter.unusedVariables false
set_option linter.unusedSimpArgs false

def two0 : ByteArray := ⟨#[58, 61]⟩
def two1 : ByteArray := ⟨#[60, 62]⟩
def two2 : ByteArray := ⟨#[60, 61]⟩
def two3 : ByteArray := ⟨#[62, 61]⟩
def ones : ByteArray := ⟨#[43, 45, 42, 61, 60, 62, 40, 41, 91, 93, 59, 44, 46, 58]⟩
/-- A sign's bytes. -/
def signT (r : ByteArray) (c : Int) : List ByteArray → Nat
  | [] => if idxB ones c ≥ 0 then 1 else 0
  | t :: l => if hasP r t then 2 else signT r c l
def twos : List ByteArray := [two0, two1, two2, two3]
def signV (r : ByteArray) (c : Int) : Nat := signT r c twos
set_option maxHeartbeats 4000000 in
theorem signC (s : ByteArray) (a : Nat) (b : UInt8) (hb : (txt s)[a]? = some b) :
    FnC (α := Unit) Try.prog 26 [.string s, .int .i64 a] [] [] (fun _ => .int .i64 (signV (s.extract a s.size) (b.toNat : Int))) (fun _ => []) (fun _ => True) := by
  have ha : a < s.size := by rw [← txt_len]; exact (List.getElem?_eq_some_iff.1 hb).1
  have hb' : s[(a : Int).toNat]? = some b := by
    rw [show (a : Int).toNat = a by omega]; exact txt_get s _ b hb
  generalize hv : signV (s.extract a s.size) (b.toNat : Int) = v
  refine fn_intro Try.func26 Try.ntmps26 rfl rfl rfl (fun w0 => ?_)
  try simp only [List.cons_append, List.nil_append, List.append_nil]
  refine rr ?_
  intro p _
  refine rr ?_
  refine w_loop (α := Nat) (fun k => [(0, .string s), (1, .int .i64 a), (7, .slice (some ⟨p, 0, none⟩) 4 4), (8, .int .i64 4), (9, .int .i64 (k : Int))]) (fun _ => [blk p [.string two0, .string two1, .string two2, .string two3] 9]) (fun k => k ≤ 4 ∧ signT (s.extract a s.size) (b.toNat : Int) (twos.drop k) = v) (fun k => 4 - k) 0 ⟨rfl, rfl, rfl, rfl, rfl, trivial⟩ rfl ⟨by decide, hv⟩ ?_
  rintro k ⟨hk, hr⟩ K1 hK1
  match k, hk, hr, hK1 with
  | 0, hk, hr, hK1 =>
    refine rr ?_
    refine ca [] (preC (s.extract a s.size) two0) ?_
    intro x hx
    try simp only [List.cons_append, List.nil_append, List.append_nil]
    have hst : signT (s.extract a s.size) (b.toNat : Int) (twos.drop 0) = if hasP (s.extract a s.size) two0 then 2 else signT (s.extract a s.size) (b.toNat : Int) (twos.drop 1) := rfl
    rw [hst] at hr
    cases h : hasP (s.extract a s.size) two0 with
    | true =>
      rw [h] at hr
      refine rr ?_
      refine we () [] trivial (hv := ?_)
      rw [← hr]; rfl
    | false =>
      rw [h] at hr
      refine rr ?_
      refine w_round hK1 1 ⟨by omega, ?_⟩ (by show 4 - 1 < 4 - 0; omega) rfl ⟨rfl, rfl, rfl, rfl, rfl, trivial⟩
      exact hr
  | 1, hk, hr, hK1 =>
    refine rr ?_
    refine ca [] (preC (s.extract a s.size) two1) ?_
    intro x hx
    try simp only [List.cons_append, List.nil_append, List.append_nil]
    have hst : signT (s.extract a s.size) (b.toNat : Int) (twos.drop 1) = if hasP (s.extract a s.size) two1 then 2 else signT (s.extract a s.size) (b.toNat : Int) (twos.drop 2) := rfl
    rw [hst] at hr
    cases h : hasP (s.extract a s.size) two1 with
    | true =>
      rw [h] at hr
      refine rr ?_
      refine we () [] trivial (hv := ?_)
      rw [← hr]; rfl
    | false =>
      rw [h] at hr
      refine rr ?_
      refine w_round hK1 2 ⟨by omega, ?_⟩ (by show 4 - 2 < 4 - 1; omega) rfl ⟨rfl, rfl, rfl, rfl, rfl, trivial⟩
      exact hr
  | 2, hk, hr, hK1 =>
    refine rr ?_
    refine ca [] (preC (s.extract a s.size) two2) ?_
    intro x hx
    try simp only [List.cons_append, List.nil_append, List.append_nil]
    have hst : signT (s.extract a s.size) (b.toNat : Int) (twos.drop 2) = if hasP (s.extract a s.size) two2 then 2 else signT (s.extract a s.size) (b.toNat : Int) (twos.drop 3) := rfl
    rw [hst] at hr
    cases h : hasP (s.extract a s.size) two2 with
    | true =>
      rw [h] at hr
      refine rr ?_
      refine we () [] trivial (hv := ?_)
      rw [← hr]; rfl
    | false =>
      rw [h] at hr
      refine rr ?_
      refine w_round hK1 3 ⟨by omega, ?_⟩ (by show 4 - 3 < 4 - 2; omega) rfl ⟨rfl, rfl, rfl, rfl, rfl, trivial⟩
      exact hr
  | 3, hk, hr, hK1 =>
    refine rr ?_
    refine ca [] (preC (s.extract a s.size) two3) ?_
    intro x hx
    try simp only [List.cons_append, List.nil_append, List.append_nil]
    have hst : signT (s.extract a s.size) (b.toNat : Int) (twos.drop 3) = if hasP (s.extract a s.size) two3 then 2 else signT (s.extract a s.size) (b.toNat : Int) (twos.drop 4) := rfl
    rw [hst] at hr
    cases h : hasP (s.extract a s.size) two3 with
    | true =>
      rw [h] at hr
      refine rr ?_
      refine we () [] trivial (hv := ?_)
      rw [← hr]; rfl
    | false =>
      rw [h] at hr
      refine rr ?_
      refine w_round hK1 4 ⟨by omega, ?_⟩ (by show 4 - 4 < 4 - 3; omega) rfl ⟨rfl, rfl, rfl, rfl, rfl, trivial⟩
      exact hr
  | 4, hk, hr, hK1 =>
    refine rr ?_
    refine ca [] (idxC ones (b.toNat : Int)) ?_
    intro x hx
    try simp only [List.cons_append, List.nil_append, List.append_nil]
    have hst : signT (s.extract a s.size) (b.toNat : Int) (twos.drop 4) = if idxB ones (b.toNat : Int) ≥ 0 then 1 else 0 := rfl
    rw [hst] at hr
    by_cases h : idxB ones (b.toNat : Int) ≥ 0
    · rw [if_pos h] at hr
      refine rr ?_
      refine we () [] trivial (hv := ?_)
      rw [← hr]; rfl
    · rw [if_neg h] at hr
      refine rr ?_
      refine we () [] trivial (hv := ?_)
      rw [← hr]; rfl
  | k + 5, hk, hr, hK1 => omega
end Go.Proofs.Yteafgnbkeghmdaa

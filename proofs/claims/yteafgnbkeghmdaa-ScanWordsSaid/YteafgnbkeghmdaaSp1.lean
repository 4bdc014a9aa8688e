/- Scanning, in plain words. -/
import Derived.Test.YteafgnbkeghmdaaSn5
import Derived.Test.YteafgnbkeghmdaaSn6
namespace Go.Proofs.Yteafgnbkeghmdaa
open Go Go.Sx Go.Sx.Chunk
set_option linter.unusedVariables false
set_option linter.unusedSimpArgs false

def bs (l : List UInt8) : ByteArray := ⟨l.toArray⟩
theorem txt_bs (l : List UInt8) : txt (bs l) = l := by simp [txt, bs]
theorem bs_txt (s : ByteArray) : bs (txt s) = s := by cases s; simp [txt, bs]
theorem bs_size (l : List UInt8) : (bs l).size = l.length := by rw [← txt_len, txt_bs]
theorem bs_inj {a b : List UInt8} : bs a = bs b ↔ a = b := ⟨fun h => by rw [← txt_bs a, h, txt_bs], fun h => by rw [h]⟩
theorem extract_bs (s : ByteArray) (a b : Nat) : s.extract a b = bs (((txt s).drop a).take (b - a)) := by
  rw [← bs_txt (s.extract a b)]
  congr 1
  simp only [txt, ByteArray.data_extract, Array.toList_extract, List.extract_eq_take_drop]
theorem lowS_bs (s : ByteArray) : lowS s = bs ((txt s).map lowB) := rfl
theorem hasP_bs (r q : List UInt8) : hasP (bs r) (bs q) = q.isPrefixOf r := by
  rw [Bool.eq_iff_iff, List.isPrefixOf_iff_prefix, List.prefix_iff_eq_take]
  simp only [hasP, Bool.and_eq_true, decide_eq_true_eq, bs_size, extract_bs, txt_bs, bs_inj, Nat.sub_zero, List.drop_zero]
  constructor
  · rintro ⟨_, h⟩; exact h.symm
  · intro h
    refine ⟨?_, h.symm⟩
    rw [h, List.length_take]; omega
/-- A sign of two bytes. -/
def two (a b : UInt8) : Bool := b == 61 && (a == 58 || a == 60 || a == 62) || a == 60 && b == 62
def onesL : List UInt8 := [43, 45, 42, 61, 60, 62, 40, 41, 91, 93, 59, 44, 46, 58]
/-- How many bytes a sign has. -/
def signR : List UInt8 → Nat
  | [] => 0
  | [c] => if onesL.contains c then 1 else 0
  | c :: d :: _ => if two c d then 2 else if onesL.contains c then 1 else 0
theorem indexByte_mem (l : List UInt8) (c : UInt8) : (Lib.indexByte l c ≥ 0) ↔ l.contains c = true := by
  induction l with
  | nil => simp [Lib.indexByte]
  | cons b l ih =>
    have hge := Lib.indexByte_ge l c
    simp only [Lib.indexByte, List.contains_cons, Bool.or_eq_true]
    by_cases hb : b = c
    · subst hb; simp
    · have h1 : (b == c) = false := by simpa using hb
      have h2 : (c == b) = false := by simpa using fun h : c = b => hb h.symm
      simp only [h1, h2, Bool.false_eq_true, if_false, false_or]
      rw [← ih]
      split <;> rename_i h <;> simp at h <;> omega
theorem idxB_nat (s : ByteArray) (b : UInt8) : idxB s (b.toNat : Int) = Lib.indexByte (txt s) b := by
  unfold idxB txt
  congr 1
  simp
theorem signV_bs (c : UInt8) (r : List UInt8) : signV (bs (c :: r)) (c.toNat : Int) = signR (c :: r) := by
  have h0 : two0 = bs [58, 61] := rfl
  have h1 : two1 = bs [60, 62] := rfl
  have h2 : two2 = bs [60, 61] := rfl
  have h3 : two3 = bs [62, 61] := rfl
  have h4 : ones = bs onesL := rfl
  simp only [signV, twos, signT, h0, h1, h2, h3, h4, hasP_bs, idxB_nat, txt_bs, indexByte_mem]
  cases r with
  | nil => simp [List.isPrefixOf, signR]
  | cons d r =>
    simp only [List.isPrefixOf, Bool.and_true, signR, two]
    have key : ∀ (p1 p2 p3 p4 q : Bool), (p1 || p2 || p3 || p4) = q → (if p1 = true then 2 else if p2 = true then 2 else if p3 = true then 2 else if p4 = true then 2 else if onesL.contains c = true then 1 else 0) = if q = true then 2 else if onesL.contains c = true then 1 else 0 := by
      intro p1 p2 p3 p4 q h; subst h; cases p1 <;> cases p2 <;> cases p3 <;> cases p4 <;> simp
    apply key
    rw [Bool.eq_iff_iff]
    simp only [Bool.or_eq_true, Bool.and_eq_true, beq_iff_eq]
    constructor
    · rintro (((⟨rfl, rfl⟩ | ⟨rfl, rfl⟩) | ⟨rfl, rfl⟩) | ⟨rfl, rfl⟩) <;> simp
    · rintro (⟨rfl, (rfl | rfl) | rfl⟩ | ⟨rfl, rfl⟩) <;> simp
/-- A token without its place. -/
structure Tk where
  mk ::
  (kind : Int) (text : List UInt8) (num : Int)
deriving DecidableEq
def Tk.cells (t : Tk) (at' : Int) : List Value := [.int .i64 t.kind, .string (bs t.text), .int .i64 t.num, .int .i64 at']
def tk0 : Tk := ⟨0, [], 0⟩
def isLD (c : Int) : Bool := isLetter c || isDigit c
/-- The token at the beginning, how many bytes it has, and the error. -/
def tokR : List UInt8 → Tk × Nat × Int
  | [] => (tk0, 0, 2)
  | c :: r =>
    if isLetter (c.toNat : Int) then
      (if runL isLD (c :: r) > 16 then (tk0, 0, 4) else (⟨1, ((c :: r).take (runL isLD (c :: r))).map lowB, 0⟩, runL isLD (c :: r), 0))
    else if isDigit (c.toNat : Int) then
      (if numL ((c :: r).take (runL isDigit (c :: r))) 0 < 0 then (tk0, 0, 3) else (⟨2, [], numL ((c :: r).take (runL isDigit (c :: r))) 0⟩, runL isDigit (c :: r), 0))
    else
      (if signR (c :: r) = 0 then (tk0, 0, 2) else (⟨3, (c :: r).take (signR (c :: r)), 0⟩, signR (c :: r), 0))
def isBlank (c : UInt8) : Bool := c == 32 || c == 9 || c == 10 || c == 13
/-- All tokens; or the place and the number of the error. -/
def scanR : Nat → Nat → List UInt8 → List (Tk × Nat) × Nat × Int
  | _, _, [] => ([], 0, 0)
  | 0, _, _ => ([], 0, 0)
  | f + 1, p, c :: r =>
    if isBlank c then scanR f (p + 1) r
    else if c = 123 then
      (if Lib.indexByte (c :: r) 125 < 0 then ([], p, 2) else scanR f (p + (Lib.indexByte (c :: r) 125).toNat + 1) ((c :: r).drop ((Lib.indexByte (c :: r) 125).toNat + 1)))
    else if (tokR (c :: r)).2.2 ≠ 0 then ([], p, (tokR (c :: r)).2.2)
    else
      match scanR f (p + (tokR (c :: r)).2.1) ((c :: r).drop (tokR (c :: r)).2.1) with
      | (l, q, e) => if e = 0 then (((tokR (c :: r)).1, p) :: l, q, e) else ([], q, e)
def scanL (s : List UInt8) : List (Tk × Nat) × Nat × Int := scanR s.length 0 s

theorem runL_pos {p : Int → Bool} {c : UInt8} {r : List UInt8} (h : p (c.toNat : Int) = true) : 1 ≤ runL p (c :: r) := by simp [runL, h]
theorem signR_le (c : UInt8) (r : List UInt8) : signR (c :: r) ≤ (c :: r).length := by
  cases r with
  | nil => simp only [signR]; split <;> simp
  | cons d r => simp only [signR]; split <;> (try split) <;> simp
theorem tokR_len {c : UInt8} {r : List UInt8} (h : (tokR (c :: r)).2.2 = 0) : 1 ≤ (tokR (c :: r)).2.1 ∧ (tokR (c :: r)).2.1 ≤ (c :: r).length := by
  simp only [tokR] at h ⊢
  split
  · rename_i h1
    rw [if_pos h1] at h
    split
    · rename_i h2; rw [if_pos h2] at h; simp at h
    · exact ⟨runL_pos (by simp [isLD, h1]), runL_le _ _⟩
  · rename_i h1
    rw [if_neg h1] at h
    split
    · rename_i h2
      rw [if_pos h2] at h
      split
      · rename_i h3; rw [if_pos h3] at h; simp at h
      · exact ⟨runL_pos h2, runL_le _ _⟩
    · rename_i h2
      rw [if_neg h2] at h
      split
      · rename_i h3; rw [if_pos h3] at h; simp at h
      · rename_i h3; exact ⟨by show 1 ≤ signR (c :: r); omega, signR_le _ _⟩
theorem indexByte_lt (l : List UInt8) (c : UInt8) : Lib.indexByte l c < l.length ∧ -1 ≤ Lib.indexByte l c := by
  refine ⟨?_, Lib.indexByte_ge l c⟩
  induction l with
  | nil => simp [Lib.indexByte]
  | cons b l ih =>
    have hge := Lib.indexByte_ge l c
    simp only [Lib.indexByte]
    split
    · simp
    · split
      · simp; omega
      · simp only [List.length_cons]; omega
/-- More fuel turns nothing. -/
theorem scanR_fuel : ∀ (f g p : Nat) (l : List UInt8), l.length ≤ f → l.length ≤ g → scanR f p l = scanR g p l
  | f, g, p, [], _, _ => by simp [scanR]
  | 0, g, p, c :: r, h, _ => by simp at h
  | f + 1, 0, p, c :: r, _, h => by simp at h
  | f + 1, g + 1, p, c :: r, hf, hg => by
    simp only [List.length_cons, Nat.add_le_add_iff_right] at hf hg
    simp only [scanR]
    split
    · exact scanR_fuel f g (p + 1) r hf hg
    · split
      · split
        · rfl
        · exact scanR_fuel f g _ _ (by simp; omega) (by simp; omega)
      · split
        · rfl
        · rename_i h
          have := tokR_len (c := c) (r := r) (by simpa using h)
          rw [scanR_fuel f g _ ((c :: r).drop (tokR (c :: r)).2.1) (by simp; omega) (by simp; omega)]
end Go.Proofs.Yteafgnbkeghmdaa

/- Scanning, in plain words: capitals; two texts. -/
import Derived.Test.YteafgnbkeghmdaaSp2
namespace Go.Proofs.Yteafgnbkeghmdaa
open Go Go.Sx Go.Sx.Chunk
set_option linter.unusedVariables false
set_option linter.unusedSimpArgs false

/-- A capital for a small letter. -/
def upB (b : UInt8) : UInt8 := if 97 ≤ b.toNat ∧ b.toNat ≤ 122 then b - 32 else b
theorem upB_yes {b : UInt8} (h : 97 ≤ b.toNat ∧ b.toNat ≤ 122) : (upB b).toNat = b.toNat - 32 := by
  unfold upB
  rw [if_pos h]
  have : b.toNat < 256 := b.toNat_lt
  have : (b - 32).toNat = (2 ^ 8 - 32 + b.toNat) % 2 ^ 8 := by simp [UInt8.toNat_sub]
  omega
theorem upB_no {b : UInt8} (h : ¬ (97 ≤ b.toNat ∧ b.toNat ≤ 122)) : upB b = b := by unfold upB; rw [if_neg h]
theorem upB_eq {b c : UInt8} (hc : ¬ (65 ≤ c.toNat ∧ c.toNat ≤ 90)) (hc2 : ¬ (97 ≤ c.toNat ∧ c.toNat ≤ 122)) : (upB b = c) ↔ (b = c) := by
  by_cases h : 97 ≤ b.toNat ∧ b.toNat ≤ 122
  · have := upB_yes h
    constructor
    · intro he; subst he; omega
    · intro he; subst he; omega
  · rw [upB_no h]
theorem upB_letter (b : UInt8) : isLetter ((upB b).toNat : Int) = isLetter (b.toNat : Int) := by
  by_cases h : 97 ≤ b.toNat ∧ b.toNat ≤ 122
  · rw [upB_yes h]
    have h1 : isLetter (b.toNat : Int) = true := by simp [isLetter]; omega
    rw [h1]
    simp [isLetter]; omega
  · rw [upB_no h]
theorem upB_digit (b : UInt8) : isDigit ((upB b).toNat : Int) = isDigit (b.toNat : Int) := by
  by_cases h : 97 ≤ b.toNat ∧ b.toNat ≤ 122
  · rw [upB_yes h]
    have h1 : isDigit (b.toNat : Int) = false := by simp [isDigit]; omega
    rw [h1]
    simp [isDigit]; omega
  · rw [upB_no h]
theorem upB_low (b : UInt8) : lowB (upB b) = lowB b := by
  by_cases h : 97 ≤ b.toNat ∧ b.toNat ≤ 122
  · have h1 := upB_yes h
    have h2 : ((lowB (upB b)).toNat : Int) = ((upB b).toNat : Int) + 32 := low_yes (by omega)
    rw [low_no (b := b) (by omega)]
    apply UInt8.toNat_inj.1
    omega
  · rw [upB_no h]
theorem up_blank (b : UInt8) : isBlank (upB b) = isBlank b := by
  have key : ∀ c : UInt8, c = 32 ∨ c = 9 ∨ c = 10 ∨ c = 13 → (upB b == c) = (b == c) := by
    intro c hc
    rw [Bool.eq_iff_iff, beq_iff_eq, beq_iff_eq]
    rcases hc with rfl | rfl | rfl | rfl <;> exact upB_eq (by decide) (by decide)
  unfold isBlank
  rw [key 32 (by simp), key 9 (by simp), key 10 (by simp), key 13 (by simp)]
theorem up_idx (l : List UInt8) : Lib.indexByte (l.map upB) 125 = Lib.indexByte l 125 := by
  induction l with
  | nil => rfl
  | cons b l ih =>
    simp only [List.map_cons, Lib.indexByte, ih]
    have : (upB b == 125) = (b == 125) := by
      rw [Bool.eq_iff_iff, beq_iff_eq, beq_iff_eq]; exact upB_eq (by decide) (by decide)
    rw [this]
theorem up_run {p : Int → Bool} (hp : ∀ b : UInt8, p ((upB b).toNat : Int) = p (b.toNat : Int)) (l : List UInt8) : runL p (l.map upB) = runL p l := by
  induction l with
  | nil => rfl
  | cons b l ih => simp only [List.map_cons, runL, hp, ih]
theorem up_digits {l : List UInt8} (h : ∀ b ∈ l, isDigit (b.toNat : Int) = true) : l.map upB = l := by
  induction l with
  | nil => rfl
  | cons b l ih =>
    have hb := h b (by simp)
    simp only [isDigit, Bool.and_eq_true, decide_eq_true_eq] at hb
    rw [List.map_cons, ih (fun c hc => h c (by simp [hc])), upB_no (by omega)]
theorem up_two (c d : UInt8) (hc : isLetter (c.toNat : Int) = false) : two (upB c) (upB d) = two c d := by
  have h1 : upB c = c := upB_no (by intro h; simp [isLetter] at hc; omega)
  rw [h1]
  have key : ∀ x : UInt8, x = 61 ∨ x = 62 → (upB d == x) = (d == x) := by
    intro x hx
    rw [Bool.eq_iff_iff, beq_iff_eq, beq_iff_eq]
    rcases hx with rfl | rfl <;> exact upB_eq (by decide) (by decide)
  unfold two
  rw [key 61 (by simp), key 62 (by simp)]
theorem two_snd {c d : UInt8} (h : two c d = true) : d = 61 ∨ d = 62 := by
  unfold two at h
  simp only [Bool.or_eq_true, Bool.and_eq_true, beq_iff_eq] at h
  rcases h with ⟨h, _⟩ | ⟨_, h⟩
  · exact .inl h
  · exact .inr h
theorem up_sign (c : UInt8) (r : List UInt8) (hc : isLetter (c.toNat : Int) = false) : signR ((c :: r).map upB) = signR (c :: r) ∧ ((c :: r).map upB).take (signR (c :: r)) = (c :: r).take (signR (c :: r)) := by
  have h1 : upB c = c := upB_no (by intro h; simp [isLetter] at hc; omega)
  cases r with
  | nil => constructor <;> simp only [List.map_cons, List.map_nil, signR, h1]
  | cons d r =>
    have h2 := up_two c d hc
    rw [h1] at h2
    refine ⟨by simp only [List.map_cons, signR, h1, h2], ?_⟩
    simp only [List.map_cons, signR, h1, h2]
    cases ht : two c d with
    | true =>
      simp only [if_true, List.take_succ_cons, List.take_zero]
      rcases two_snd ht with rfl | rfl <;> rw [upB_no (by decide)]
    | false =>
      simp only [Bool.false_eq_true, if_false]
      split <;> simp
theorem up_tok (c : UInt8) (r : List UInt8) : tokR ((c :: r).map upB) = tokR (c :: r) := by
  have hLD : ∀ b : UInt8, isLD ((upB b).toNat : Int) = isLD (b.toNat : Int) := fun b => by unfold isLD; rw [upB_letter, upB_digit]
  have e1 := up_run hLD (c :: r)
  have e2 := up_run upB_digit (c :: r)
  have e3 : ∀ k, (((c :: r).map upB).take k).map lowB = ((c :: r).take k).map lowB := by
    intro k
    rw [← List.map_take, List.map_map]
    congr 1
    funext b
    exact upB_low b
  have e4 : ((c :: r).map upB).take (runL isDigit (c :: r)) = (c :: r).take (runL isDigit (c :: r)) := by
    rw [← List.map_take]
    exact up_digits (runL_all isDigit (c :: r))
  have h0 : ∀ l, tokR (upB c :: l) = if isLetter ((upB c).toNat : Int) then
      (if runL isLD (upB c :: l) > 16 then (tk0, 0, 4) else (⟨1, ((upB c :: l).take (runL isLD (upB c :: l))).map lowB, 0⟩, runL isLD (upB c :: l), 0))
    else if isDigit ((upB c).toNat : Int) then
      (if numL ((upB c :: l).take (runL isDigit (upB c :: l))) 0 < 0 then (tk0, 0, 3) else (⟨2, [], numL ((upB c :: l).take (runL isDigit (upB c :: l))) 0⟩, runL isDigit (upB c :: l), 0))
    else
      (if signR (upB c :: l) = 0 then (tk0, 0, 2) else (⟨3, (upB c :: l).take (signR (upB c :: l)), 0⟩, signR (upB c :: l), 0)) := fun l => rfl
  rw [List.map_cons, h0, ← List.map_cons (f := upB), e1, e2, e3, e4, upB_letter, upB_digit]
  simp only [tokR]
  cases hl : isLetter (c.toNat : Int) with
  | true => rfl
  | false =>
    obtain ⟨e5, e6⟩ := up_sign c r hl
    rw [e5, e6]
theorem scan_case : ∀ (n p : Nat) (l : List UInt8), l.length ≤ n → scanD p (l.map upB) = scanD p l
  | n, p, [], _ => rfl
  | 0, p, c :: r, h => by simp at h
  | n + 1, p, c :: r, h => by
    simp only [List.length_cons, Nat.add_le_add_iff_right] at h
    have e1 := up_idx (c :: r)
    have e2 := up_tok c r
    have h123 : (upB c = 123) ↔ (c = 123) := upB_eq (by decide) (by decide)
    rw [List.map_cons] at e1 e2 ⊢
    rw [scanD_cons, scanD_cons, up_blank, e1, e2]
    simp only [h123]
    split
    · exact scan_case n _ _ h
    · split
      · split
        · rfl
        · rw [← List.map_cons (f := upB), ← List.map_drop]
          exact scan_case n _ _ (by simp; omega)
      · split
        · rfl
        · rename_i ht
          have := tokR_len (c := c) (r := r) (by simpa using ht)
          rw [← List.map_cons (f := upB), ← List.map_drop, scan_case n _ _ (by simp; omega)]
/-! ### Two texts -/
theorem run_app {p : Int → Bool} (h32 : p 32 = false) (l m : List UInt8) : runL p (l ++ 32 :: m) = runL p l := by
  induction l with
  | nil =>
    simp only [List.nil_append, runL]
    rw [show (((32 : UInt8).toNat : Nat) : Int) = 32 from rfl, h32]; rfl
  | cons b l ih => simp only [List.cons_append, runL, ih]
theorem sign_app (c : UInt8) (r m : List UInt8) : signR (c :: r ++ 32 :: m) = signR (c :: r) := by
  cases r with
  | nil =>
    have h : two c 32 = false := by
      unfold two
      simp
    simp only [List.cons_append, List.nil_append, signR, h, Bool.false_eq_true, if_false]
  | cons d r => simp only [List.cons_append, signR]
theorem take_app {l m : List UInt8} {k : Nat} (h : k ≤ l.length) : (l ++ m).take k = l.take k := by
  rw [List.take_append_of_le_length h]
theorem tok_app (c : UInt8) (r m : List UInt8) : tokR (c :: r ++ 32 :: m) = tokR (c :: r) := by
  have e1 := run_app (p := isLD) (by decide) (c :: r) m
  have e2 := run_app (p := isDigit) (by decide) (c :: r) m
  have e3 := sign_app c r m
  have e4 := take_app (m := 32 :: m) (runL_le isLD (c :: r))
  have e5 := take_app (m := 32 :: m) (runL_le isDigit (c :: r))
  have e6 := take_app (m := 32 :: m) (signR_le c r)
  rw [List.cons_append] at *
  simp only [tokR, e1, e2, e3, e4, e5, e6]
theorem idx_app2 {l m : List UInt8} {x : UInt8} (h : 0 ≤ Lib.indexByte l x) : Lib.indexByte (l ++ m) x = Lib.indexByte l x := by
  induction l with
  | nil => simp [Lib.indexByte] at h
  | cons b l ih =>
    simp only [List.cons_append, Lib.indexByte] at h ⊢
    split
    · rfl
    · rename_i hb
      rw [if_neg hb] at h
      by_cases h2 : Lib.indexByte l x = -1
      · rw [h2] at h; simp at h
      · have := Lib.indexByte_ge l x
        rw [ih (by omega)]
theorem scan_join (m : List UInt8) : ∀ (n p : Nat) (l : List UInt8), l.length ≤ n → (scanD p l).2.2 = 0 → scanD p (l ++ 32 :: m) = comb (scanD p l).1 (scanD (p + l.length + 1) m)
  | n, p, [], _, _ => by
    rw [List.nil_append, scanD_cons, show isBlank 32 = true from rfl, if_pos rfl, scanD_nil]
    rw [comb_nil _ (scanD_res _ _ _ (Nat.le_refl _))]; rfl
  | 0, p, c :: r, h, _ => by simp at h
  | n + 1, p, c :: r, h, h0 => by
    simp only [List.length_cons, Nat.add_le_add_iff_right] at h
    rw [List.cons_append, scanD_cons, ← List.cons_append]
    cases step1 p c r with
    | blank hb he =>
      rw [he] at h0 ⊢
      rw [hb, if_pos rfl, scan_join m n (p + 1) r h h0]
      congr 2; simp; omega
    | open' hb hc k hk hneg he => rw [he] at h0; simp at h0
    | comment hb hc k hk hle he =>
      rw [he] at h0 ⊢
      rw [hb, if_neg (by simp), if_pos hc, idx_app2 (by omega), hk, if_neg (by omega), Int.toNat_natCast]
      rw [List.drop_append_of_le_length hle, scan_join m n _ _ (by simp; omega) h0]
      congr 2; simp only [List.length_cons] at hle; simp; omega
    | bad hb hc ht he => rw [he] at h0; exact absurd h0 ht
    | tok hb hc ht h1 h2 he =>
      rw [he] at h0 ⊢
      have h0' : (scanD (p + (tokR (c :: r)).2.1) ((c :: r).drop (tokR (c :: r)).2.1)).2.2 = 0 := by
        unfold consT at h0
        split at h0
        · assumption
        · rename_i hx; exact absurd h0 hx
      rw [tok_app, hb, if_neg (by simp), if_neg hc, if_neg (by simpa using ht), List.drop_append_of_le_length h2, scan_join m n _ _ (by simp; omega) h0']
      unfold consT
      rw [if_pos h0']
      simp only [List.length_cons] at h2
      rw [show p + (tokR (c :: r)).2.1 + ((c :: r).drop (tokR (c :: r)).2.1).length + 1 = p + (c :: r).length + 1 by simp; omega]
      unfold comb
      by_cases hx : (scanD (p + (c :: r).length + 1) m).2.2 = 0
      · rw [if_pos hx, if_pos hx, if_pos (by exact hx)]; simp
      · rw [if_neg hx, if_neg hx, if_neg (by exact hx)]
end Go.Proofs.Yteafgnbkeghmdaa

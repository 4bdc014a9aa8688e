/- Digits of numbers; words that are parted by blanks. -/
import Derived.Test.YteafgnbkeghmdaaSp2
namespace Go.Proofs.Yteafgnbkeghmdaa
open Go Go.Sx Go.Sx.Chunk
set_option linter.unusedVariables false
set_option linter.unusedSimpArgs false

/-- The digit of a number below ten. -/
def dig (n : Nat) : UInt8 := (48 + n % 10).toUInt8
theorem dig_nat (n : Nat) : (dig n).toNat = 48 + n % 10 := by
  unfold dig
  simp only [Nat.toUInt8, UInt8.toNat_ofNat']
  omega
theorem dig_is (n : Nat) : isDigit ((dig n).toNat : Int) = true := by
  rw [dig_nat]; simp [isDigit]; omega
def digF : Nat → Nat → List UInt8
  | 0, n => [dig n]
  | f + 1, n => if n < 10 then [dig n] else digF f (n / 10) ++ [dig n]
def digL (n : Nat) : List UInt8 := digF n n
theorem digF_eq : ∀ (f g n : Nat), n ≤ f → n ≤ g → digF f n = digF g n
  | 0, 0, n, _, _ => rfl
  | 0, g + 1, n, h, _ => by
    obtain rfl : n = 0 := by omega
    simp [digF]
  | f + 1, 0, n, _, h => by
    obtain rfl : n = 0 := by omega
    simp [digF]
  | f + 1, g + 1, n, hf, hg => by
    simp only [digF]
    split
    · rfl
    · rw [digF_eq f g (n / 10) (by omega) (by omega)]
theorem digL_lo {n : Nat} (h : n < 10) : digL n = [dig n] := by
  unfold digL
  cases n with
  | zero => rfl
  | succ n => simp only [digF, if_pos h]
theorem digL_hi {n : Nat} (h : 10 ≤ n) : digL n = digL (n / 10) ++ [dig n] := by
  unfold digL
  cases n with
  | zero => omega
  | succ m =>
    simp only [digF]
    rw [if_neg (by omega), digF_eq m ((m + 1) / 10) _ (by omega) (Nat.le_refl _)]
theorem digL_all (n : Nat) : ∀ b ∈ digL n, isDigit (b.toNat : Int) = true := by
  induction n using Nat.strongRecOn with
  | ind n ih =>
    intro b hb
    by_cases h : n < 10
    · rw [digL_lo h] at hb
      simp only [List.mem_singleton] at hb
      subst hb; exact dig_is n
    · rw [digL_hi (by omega)] at hb
      rcases List.mem_append.1 hb with hb | hb
      · exact ih (n / 10) (by omega) b hb
      · simp only [List.mem_singleton] at hb
        subst hb; exact dig_is n
theorem digL_len (n : Nat) : 1 ≤ (digL n).length ∧ (n < 100000 → (digL n).length ≤ 5) := by
  have key : ∀ k n, n < 10 ^ (k + 1) → (digL n).length ≤ k + 1 := by
    intro k
    induction k with
    | zero => intro n h; rw [digL_lo (by omega)]; simp
    | succ k ih =>
      intro n h
      by_cases h10 : n < 10
      · rw [digL_lo h10]; simp
      · rw [digL_hi (by omega), List.length_append]
        have := ih (n / 10) (by rw [Nat.pow_succ] at h; omega)
        simp; omega
  refine ⟨?_, fun h => key 4 n h⟩
  by_cases h : n < 10
  · rw [digL_lo h]; simp
  · rw [digL_hi (by omega)]; simp
/-- Digits mean their number. -/
def valL (l : List UInt8) (n : Int) : Int := l.foldl (fun n b => 10 * n + ((b.toNat : Int) - 48)) n
theorem valL_digL (n : Nat) : valL (digL n) 0 = n := by
  induction n using Nat.strongRecOn with
  | ind n ih =>
    by_cases h : n < 10
    · rw [digL_lo h]
      simp only [valL, List.foldl_cons, List.foldl_nil, dig_nat]
      omega
    · rw [digL_hi (by omega)]
      have := ih (n / 10) (by omega)
      unfold valL at this ⊢
      rw [List.foldl_append, this]
      simp only [List.foldl_cons, List.foldl_nil, dig_nat]
      omega
theorem valL_mono : ∀ (l : List UInt8) (n : Int), (∀ b ∈ l, isDigit (b.toNat : Int) = true) → 0 ≤ n → n ≤ valL l n
  | [], n, _, _ => Int.le_refl _
  | b :: l, n, hd, h0 => by
    have hb := hd b (by simp)
    simp only [isDigit, Bool.and_eq_true, decide_eq_true_eq] at hb
    have := valL_mono l (10 * n + ((b.toNat : Int) - 48)) (fun c hc => hd c (by simp [hc])) (by omega)
    unfold valL at this ⊢
    rw [List.foldl_cons]
    omega
theorem numL_val : ∀ (l : List UInt8) (n : Int), (∀ b ∈ l, isDigit (b.toNat : Int) = true) → 0 ≤ n → valL l n ≤ 32767 → numL l n = valL l n
  | [], n, _, _, _ => rfl
  | b :: l, n, hd, h0, h1 => by
    have hb := hd b (by simp)
    simp only [isDigit, Bool.and_eq_true, decide_eq_true_eq] at hb
    have hm := valL_mono l (10 * n + ((b.toNat : Int) - 48)) (fun c hc => hd c (by simp [hc])) (by omega)
    have h1' : valL l (10 * n + ((b.toNat : Int) - 48)) ≤ 32767 := by
      unfold valL at h1 ⊢; rwa [List.foldl_cons] at h1
    simp only [numL]
    rw [if_neg (by omega), numL_val l _ (fun c hc => hd c (by simp [hc])) (by omega) h1']
    rfl
theorem numL_digL {n : Nat} (h : n ≤ 32767) : numL (digL n) 0 = n := by
  rw [numL_val _ 0 (digL_all n) (Int.le_refl _) (by rw [valL_digL]; omega), valL_digL]

theorem runL_full {p : Int → Bool} : ∀ {l m : List UInt8} {x : UInt8}, (∀ b ∈ l, p (b.toNat : Int) = true) → p (x.toNat : Int) = false → runL p (l ++ x :: m) = l.length
  | [], m, x, _, hx => by simp [runL, hx]
  | b :: l, m, x, h, hx => by
    rw [List.cons_append]
    simp only [runL, h b (by simp), if_true, List.length_cons]
    rw [runL_full (fun c hc => h c (by simp [hc])) hx]
theorem digit_nums {b : UInt8} (h : isDigit (b.toNat : Int) = true) : 48 ≤ b.toNat ∧ b.toNat ≤ 57 := by
  simp only [isDigit, Bool.and_eq_true, decide_eq_true_eq] at h; omega
theorem digit_low {l : List UInt8} (h : ∀ b ∈ l, isDigit (b.toNat : Int) = true) : l.map lowB = l := by
  induction l with
  | nil => rfl
  | cons b l ih =>
    have := digit_nums (h b (by simp))
    rw [List.map_cons, ih (fun c hc => h c (by simp [hc])), low_no (by omega)]
/-- One number, as a name and as a number. -/
def wordL (n : Nat) : List UInt8 := 78 :: digL n ++ 10 :: (digL n ++ [32])
theorem scan_word (n p : Nat) (l : List UInt8) (hn : n ≤ 32767) : scanD p (wordL n ++ l) = consT (⟨1, 110 :: digL n, 0⟩, p) (consT (⟨2, [], n⟩, p + (digL n).length + 2) (scanD (p + (wordL n).length) l)) := by
  have hall := digL_all n
  obtain ⟨h1, h5⟩ := digL_len n
  have h5 := h5 (by omega)
  have hw : wordL n ++ l = 78 :: (digL n ++ 10 :: (digL n ++ 32 :: l)) := by simp [wordL]
  have hr1 : runL isLD (78 :: (digL n ++ 10 :: (digL n ++ 32 :: l))) = (digL n).length + 1 := by
    simp only [runL]
    rw [if_pos (by decide), runL_full (fun b hb => by unfold isLD; rw [hall b hb]; simp) (by decide)]
  have ht1 : tokR (78 :: (digL n ++ 10 :: (digL n ++ 32 :: l))) = (⟨1, 110 :: digL n, 0⟩, (digL n).length + 1, 0) := by
    simp only [tokR]
    rw [if_pos (by decide), hr1, if_neg (by omega)]
    have : (78 :: (digL n ++ 10 :: (digL n ++ 32 :: l))).take ((digL n).length + 1) = 78 :: digL n := by
      rw [List.take_succ_cons, List.take_left]
    rw [this, List.map_cons, digit_low hall]
    rfl
  rw [hw, scanD_cons, if_neg (by decide), if_neg (by decide), ht1, if_neg (by simp)]
  congr 1
  have hd1 : (78 :: (digL n ++ 10 :: (digL n ++ 32 :: l))).drop ((digL n).length + 1) = 10 :: (digL n ++ 32 :: l) := by
    rw [List.drop_succ_cons, List.drop_left]
  dsimp only
  rw [hd1, scanD_cons, show isBlank 10 = true from rfl, if_pos rfl]
  obtain ⟨c, r, hcr⟩ : ∃ c r, digL n = c :: r := by
    cases h : digL n with
    | nil => rw [h] at h1; simp at h1
    | cons c r => exact ⟨c, r, rfl⟩
  have hc := hall c (by rw [hcr]; simp)
  have hcn := digit_nums hc
  have hnl : isLetter (c.toNat : Int) = false := by simp [isLetter]; omega
  have hnb : isBlank c = false := by
    simp only [isBlank, Bool.or_eq_false_iff, beq_eq_false_iff_ne, ne_eq, ← UInt8.toNat_inj]
    exact ⟨⟨⟨by show c.toNat ≠ 32; omega, by show c.toNat ≠ 9; omega⟩, by show c.toNat ≠ 10; omega⟩, by show c.toNat ≠ 13; omega⟩
  have hn123 : c ≠ 123 := by intro h; subst h; simp at hcn
  have hr2 : runL isDigit (digL n ++ 32 :: l) = (digL n).length := runL_full hall (by decide)
  have ht2 : tokR (digL n ++ 32 :: l) = (⟨2, [], n⟩, (digL n).length, 0) := by
    rw [hcr, List.cons_append]
    simp only [tokR]
    rw [hnl, if_neg (by simp), hc, if_pos rfl, ← List.cons_append, ← hcr, hr2, List.take_left, numL_digL hn, if_neg (by omega)]
  rw [hcr, List.cons_append, scanD_cons, hnb, if_neg (by simp), if_neg hn123, ← List.cons_append, ← hcr, ht2, if_neg (by simp)]
  dsimp only
  rw [List.drop_left, scanD_cons, show isBlank 32 = true from rfl, if_pos rfl]
  congr 2
  simp [wordL]; omega
/-- Numbers, each told as a name, and as a number. -/
def wordsL (l : List Nat) : List UInt8 := l.flatMap wordL
def wordsT : Nat → List Nat → List (Tk × Nat)
  | _, [] => []
  | p, n :: l => (⟨1, 110 :: digL n, 0⟩, p) :: (⟨2, [], n⟩, p + (digL n).length + 2) :: wordsT (p + (wordL n).length) l
theorem scan_words : ∀ (l : List Nat) (p : Nat), (∀ n ∈ l, n ≤ 32767) → scanD p (wordsL l) = (wordsT p l, 0, 0)
  | [], p, _ => rfl
  | n :: l, p, h => by
    rw [wordsL, List.flatMap_cons, scan_word n p _ (h n (by simp)), show l.flatMap wordL = wordsL l from rfl, scan_words l _ (fun m hm => h m (by simp [hm]))]
    simp [consT, wordsT]
theorem wordsT_len : ∀ (l : List Nat) (p : Nat), (wordsT p l).length = 2 * l.length
  | [], p => rfl
  | n :: l, p => by simp only [wordsT, List.length_cons, wordsT_len l]; omega
theorem wordsT_get : ∀ {l : List Nat} {p k n : Nat}, l[k]? = some n → ∃ q q', (wordsT p l)[2 * k]? = some (⟨1, 110 :: digL n, 0⟩, q) ∧ (wordsT p l)[2 * k + 1]? = some (⟨2, [], n⟩, q')
  | [], p, k, n, h => by simp at h
  | m :: l, p, 0, n, h => by
    simp only [List.getElem?_cons_zero, Option.some.injEq] at h
    subst h
    exact ⟨p, _, rfl, rfl⟩
  | m :: l, p, k + 1, n, h => by
    obtain ⟨q, q', h1, h2⟩ := wordsT_get (l := l) (p := p + (wordL m).length) (k := k) (n := n) (by simpa using h)
    refine ⟨q, q', ?_, ?_⟩
    · rw [show 2 * (k + 1) = 2 * k + 1 + 1 by omega]; simpa [wordsT] using h1
    · rw [show 2 * (k + 1) + 1 = 2 * k + 1 + 1 + 1 by omega]; simpa [wordsT] using h2
end Go.Proofs.Yteafgnbkeghmdaa

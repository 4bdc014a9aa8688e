/- Texts of the proof, in their order: cSp2, cSp3, cSp4, cSp5, Cb2, Cd1, Su1, Su2, Su3, cSn10, Lia. -/
import Derived.Test.YteddjcpaeoceeaaGreatDoorM6
import Derived.Test.YteddjcpaeoceeaaGreatDoorM5
import Derived.Test.YteddjcpaeoceeaaGreatDoorM8
import Derived.Test.YteddjcpaeoceeaaGreatDoorM2
set_option linter.unusedVariables false
set_option linter.unusedSimpArgs false
namespace Go.Proofs.YteddjcpaeoceeaaGreatDoor.Sc
open Go Go.Sx Go.Sx.Chunk
set_option linter.unusedVariables false
set_option maxRecDepth 100000
set_option linter.unusedSimpArgs false
/-- One step: what is known of a text that is not empty. -/
inductive Step1 (p : Nat) (c : UInt8) (r : List UInt8) : Prop
  | blank (h : isBlank c = true) (he : scanD p (c :: r) = scanD (p + 1) r)
  | open' (h : isBlank c = false) (hc : c = 123) (k : Int) (hk : Lib.indexByte (c :: r) 125 = k) (hneg : k < 0) (he : scanD p (c :: r) = ([], p, 2))
  | comment (h : isBlank c = false) (hc : c = 123) (k : Nat) (hk : Lib.indexByte (c :: r) 125 = k) (hle : k + 1 ≤ (c :: r).length) (he : scanD p (c :: r) = scanD (p + k + 1) ((c :: r).drop (k + 1)))
  | bad (h : isBlank c = false) (hc : c ≠ 123) (hb : (tokR (c :: r)).2.2 ≠ 0) (he : scanD p (c :: r) = ([], p, (tokR (c :: r)).2.2))
  | tok (h : isBlank c = false) (hc : c ≠ 123) (hb : (tokR (c :: r)).2.2 = 0) (h1 : 1 ≤ (tokR (c :: r)).2.1) (h2 : (tokR (c :: r)).2.1 ≤ (c :: r).length) (he : scanD p (c :: r) = consT ((tokR (c :: r)).1, p) (scanD (p + (tokR (c :: r)).2.1) ((c :: r).drop (tokR (c :: r)).2.1)))
theorem step1 (p : Nat) (c : UInt8) (r : List UInt8) : Step1 p c r := by
  have h := scanD_cons p c r
  cases hb : isBlank c with
  | true => rw [hb, if_pos rfl] at h; exact .blank hb h
  | false =>
    rw [hb, if_neg (by simp)] at h
    by_cases hc : c = 123
    · rw [if_pos hc] at h
      by_cases hk : Lib.indexByte (c :: r) 125 < 0
      · rw [if_pos hk] at h; exact .open' hb hc _ rfl hk h
      · rw [if_neg hk] at h
        have := indexByte_lt (c :: r) 125
        exact .comment hb hc (Lib.indexByte (c :: r) 125).toNat (by omega) (by omega) h
    · rw [if_neg hc] at h
      by_cases ht : (tokR (c :: r)).2.2 ≠ 0
      · rw [if_pos ht] at h; exact .bad hb hc ht h
      · rw [if_neg ht] at h
        have ht' : (tokR (c :: r)).2.2 = 0 := by simpa using ht
        have := tokR_len ht'
        exact .tok hb hc ht' this.1 this.2 h
/-! ### Places further on -/
def shiftR (d : Nat) (r : ScanRes) : ScanRes := (r.1.map (fun t => (t.1, t.2 + d)), if r.2.2 = 0 then r.2.1 else r.2.1 + d, r.2.2)
theorem shift_cons (d : Nat) (t : Tk) (p : Nat) (r : ScanRes) : shiftR d (consT (t, p) r) = consT (t, p + d) (shiftR d r) := by
  unfold shiftR consT
  by_cases h : r.2.2 = 0 <;> simp [h]
theorem scanD_shift (d : Nat) : ∀ (n p : Nat) (l : List UInt8), l.length ≤ n → scanD (p + d) l = shiftR d (scanD p l)
  | n, p, [], _ => by simp [scanD_nil, shiftR]
  | 0, p, c :: r, h => by simp at h
  | n + 1, p, c :: r, h => by
    simp only [List.length_cons, Nat.add_le_add_iff_right] at h
    cases step1 p c r with
    | blank hb he =>
      rw [he, scanD_cons, hb, if_pos rfl, ← scanD_shift d n (p + 1) r h]
      congr 1; omega
    | open' hb hc k hk hneg he =>
      rw [he, scanD_cons, hb, if_neg (by simp), if_pos hc, hk, if_pos hneg]; rfl
    | comment hb hc k hk hle he =>
      rw [he, scanD_cons, hb, if_neg (by simp), if_pos hc, hk, if_neg (by omega), ← scanD_shift d n _ _ (by simp; omega)]
      rw [Int.toNat_natCast]
      congr 1; omega
    | bad hb hc ht he =>
      rw [he, scanD_cons, hb, if_neg (by simp), if_neg hc, if_pos ht]
      simp [shiftR, ht]
    | tok hb hc ht h1 h2 he =>
      rw [he, scanD_cons, hb, if_neg (by simp), if_neg hc, if_neg (by simpa using ht), shift_cons, ← scanD_shift d n _ _ (by simp; omega)]
      congr 2; omega
theorem skip_blanks : ∀ (bks l : List UInt8) (p : Nat), (∀ b ∈ bks, isBlank b = true) → scanD p (bks ++ l) = scanD (p + bks.length) l
  | [], l, p, _ => rfl
  | b :: bks, l, p, h => by
    rw [List.cons_append, scanD_cons, h b (by simp), if_pos rfl, skip_blanks bks l (p + 1) (fun c hc => h c (by simp [hc]))]
    congr 1; simp [Nat.add_comm, Nat.add_left_comm]
theorem idx_app {c : List UInt8} {l : List UInt8} {x : UInt8} (h : ∀ b ∈ c, b ≠ x) : Lib.indexByte (c ++ x :: l) x = c.length := by
  induction c with
  | nil => simp [Lib.indexByte]
  | cons b c ih =>
    have ih' := ih (fun d hd => h d (by simp [hd]))
    simp only [List.cons_append, Lib.indexByte]
    rw [if_neg (by simpa using h b (by simp)), ih', if_neg (by simp)]
    simp
theorem skip_comment (c l : List UInt8) (p : Nat) (h : ∀ b ∈ c, b ≠ 125) : scanD p (123 :: c ++ 125 :: l) = scanD (p + c.length + 2) l := by
  have hi : Lib.indexByte (123 :: (c ++ 125 :: l)) 125 = ((c.length + 1 : Nat) : Int) := by
    have := idx_app (c := 123 :: c) (l := l) (x := 125) (by intro b hb; rcases List.mem_cons.1 hb with rfl | hb; decide; exact h b hb)
    simpa using this
  rw [List.cons_append, scanD_cons, if_neg (by decide), if_pos rfl, hi, if_neg (by omega), Int.toNat_natCast]
  have hd : (123 :: (c ++ 125 :: l)).drop (c.length + 1 + 1) = l := by
    rw [List.drop_succ_cons, List.drop_append]
    simp
  rw [hd]
  congr 1
/-- Blanks and a comment ahead. -/
theorem scan_ahead (c bks l : List UInt8) (hc : ∀ b ∈ c, b ≠ 125) (hb : ∀ b ∈ bks, isBlank b = true) : scanD 0 (123 :: c ++ 125 :: (bks ++ l)) = shiftR (c.length + 2 + bks.length) (scanD 0 l) := by
  rw [skip_comment c (bks ++ l) 0 hc, skip_blanks bks l _ hb, ← scanD_shift _ _ 0 l (Nat.le_refl _)]
  congr 1; omega
end Go.Proofs.YteddjcpaeoceeaaGreatDoor.Sc
namespace Go.Proofs.YteddjcpaeoceeaaGreatDoor.Sc
open Go Go.Sx Go.Sx.Chunk
set_option linter.unusedVariables false
set_option maxRecDepth 100000
set_option linter.unusedSimpArgs false
theorem run_app {p : Int → Bool} (h32 : p 32 = false) (l m : List UInt8) : runL p (l ++ 32 :: m) = runL p l := by
  induction l with
  | nil =>
    simp only [List.nil_append, runL]
    rw [show (((32 : UInt8).toNat : Nat) : Int) = 32 from rfl, h32]; rfl
  | cons b l ih => simp only [List.cons_append, runL, ih]
theorem sign_app (c : UInt8) (r m : List UInt8) : signR (c :: r ++ 32 :: m) = signR (c :: r) := by
  cases r with
  | nil =>
    have h : two c 32 = false := by
      unfold two
      simp
    simp only [List.cons_append, List.nil_append, signR, h, Bool.false_eq_true, if_false]
  | cons d r => simp only [List.cons_append, signR]
theorem take_app {l m : List UInt8} {k : Nat} (h : k ≤ l.length) : (l ++ m).take k = l.take k := by
  rw [List.take_append_of_le_length h]
theorem tok_app (c : UInt8) (r m : List UInt8) : tokR (c :: r ++ 32 :: m) = tokR (c :: r) := by
  have e1 := run_app (p := isLD) (by decide) (c :: r) m
  have e2 := run_app (p := isDigit) (by decide) (c :: r) m
  have e3 := sign_app c r m
  have e4 := take_app (m := 32 :: m) (runL_le isLD (c :: r))
  have e5 := take_app (m := 32 :: m) (runL_le isDigit (c :: r))
  have e6 := take_app (m := 32 :: m) (signR_le c r)
  rw [List.cons_append] at *
  simp only [tokR, e1, e2, e3, e4, e5, e6]
theorem idx_app2 {l m : List UInt8} {x : UInt8} (h : 0 ≤ Lib.indexByte l x) : Lib.indexByte (l ++ m) x = Lib.indexByte l x := by
  induction l with
  | nil => simp [Lib.indexByte] at h
  | cons b l ih =>
    simp only [List.cons_append, Lib.indexByte] at h ⊢
    split
    · rfl
    · rename_i hb
      rw [if_neg hb] at h
      by_cases h2 : Lib.indexByte l x = -1
      · rw [h2] at h; simp at h
      · have := Lib.indexByte_ge l x
        rw [ih (by omega)]
theorem scan_join (m : List UInt8) : ∀ (n p : Nat) (l : List UInt8), l.length ≤ n → (scanD p l).2.2 = 0 → scanD p (l ++ 32 :: m) = comb (scanD p l).1 (scanD (p + l.length + 1) m)
  | n, p, [], _, _ => by
    rw [List.nil_append, scanD_cons, show isBlank 32 = true from rfl, if_pos rfl, scanD_nil]
    rw [comb_nil _ (scanD_res _ _ _ (Nat.le_refl _))]; rfl
  | 0, p, c :: r, h, _ => by simp at h
  | n + 1, p, c :: r, h, h0 => by
    simp only [List.length_cons, Nat.add_le_add_iff_right] at h
    rw [List.cons_append, scanD_cons, ← List.cons_append]
    cases step1 p c r with
    | blank hb he =>
      rw [he] at h0 ⊢
      rw [hb, if_pos rfl, scan_join m n (p + 1) r h h0]
      congr 2; simp; omega
    | open' hb hc k hk hneg he => rw [he] at h0; simp at h0
    | comment hb hc k hk hle he =>
      rw [he] at h0 ⊢
      rw [hb, if_neg (by simp), if_pos hc, idx_app2 (by omega), hk, if_neg (by omega), Int.toNat_natCast]
      rw [List.drop_append_of_le_length hle, scan_join m n _ _ (by simp; omega) h0]
      congr 2; simp only [List.length_cons] at hle; simp; omega
    | bad hb hc ht he => rw [he] at h0; exact absurd h0 ht
    | tok hb hc ht h1 h2 he =>
      rw [he] at h0 ⊢
      have h0' : (scanD (p + (tokR (c :: r)).2.1) ((c :: r).drop (tokR (c :: r)).2.1)).2.2 = 0 := by
        unfold consT at h0
        split at h0
        · assumption
        · rename_i hx; exact absurd h0 hx
      rw [tok_app, hb, if_neg (by simp), if_neg hc, if_neg (by simpa using ht), List.drop_append_of_le_length h2, scan_join m n _ _ (by simp; omega) h0']
      unfold consT
      rw [if_pos h0']
      simp only [List.length_cons] at h2
      rw [show p + (tokR (c :: r)).2.1 + ((c :: r).drop (tokR (c :: r)).2.1).length + 1 = p + (c :: r).length + 1 by simp; omega]
      unfold comb
      by_cases hx : (scanD (p + (c :: r).length + 1) m).2.2 = 0
      · rw [if_pos hx, if_pos hx, if_pos (by exact hx)]; simp
      · rw [if_neg hx, if_neg hx, if_neg (by exact hx)]
end Go.Proofs.YteddjcpaeoceeaaGreatDoor.Sc
namespace Go.Proofs.YteddjcpaeoceeaaGreatDoor.Sc
open Go Go.Sx Go.Sx.Chunk
set_option linter.unusedVariables false
set_option maxRecDepth 100000
set_option linter.unusedSimpArgs false

theorem low_no {b : UInt8} (h : ¬ (65 ≤ b.toNat ∧ b.toNat ≤ 90)) : lowB b = b := by unfold lowB; rw [if_neg h]
/-- The digit of a number below ten. -/
def dig (n : Nat) : UInt8 := (48 + n % 10).toUInt8
theorem dig_nat (n : Nat) : (dig n).toNat = 48 + n % 10 := by
  unfold dig
  simp only [Nat.toUInt8, UInt8.toNat_ofNat']
  omega
theorem dig_is (n : Nat) : isDigit ((dig n).toNat : Int) = true := by
  rw [dig_nat]; simp [isDigit]; omega
def digF : Nat → Nat → List UInt8
  | 0, n => [dig n]
  | f + 1, n => if n < 10 then [dig n] else digF f (n / 10) ++ [dig n]
def digL (n : Nat) : List UInt8 := digF n n
theorem digF_eq : ∀ (f g n : Nat), n ≤ f → n ≤ g → digF f n = digF g n
  | 0, 0, n, _, _ => rfl
  | 0, g + 1, n, h, _ => by
    obtain rfl : n = 0 := by omega
    simp [digF]
  | f + 1, 0, n, _, h => by
    obtain rfl : n = 0 := by omega
    simp [digF]
  | f + 1, g + 1, n, hf, hg => by
    simp only [digF]
    split
    · rfl
    · rw [digF_eq f g (n / 10) (by omega) (by omega)]
theorem digL_lo {n : Nat} (h : n < 10) : digL n = [dig n] := by
  unfold digL
  cases n with
  | zero => rfl
  | succ n => simp only [digF, if_pos h]
theorem digL_hi {n : Nat} (h : 10 ≤ n) : digL n = digL (n / 10) ++ [dig n] := by
  unfold digL
  cases n with
  | zero => omega
  | succ m =>
    simp only [digF]
    rw [if_neg (by omega), digF_eq m ((m + 1) / 10) _ (by omega) (Nat.le_refl _)]
theorem digL_all (n : Nat) : ∀ b ∈ digL n, isDigit (b.toNat : Int) = true := by
  induction n using Nat.strongRecOn with
  | ind n ih =>
    intro b hb
    by_cases h : n < 10
    · rw [digL_lo h] at hb
      simp only [List.mem_singleton] at hb
      subst hb; exact dig_is n
    · rw [digL_hi (by omega)] at hb
      rcases List.mem_append.1 hb with hb | hb
      · exact ih (n / 10) (by omega) b hb
      · simp only [List.mem_singleton] at hb
        subst hb; exact dig_is n
theorem digL_len (n : Nat) : 1 ≤ (digL n).length ∧ (n < 100000 → (digL n).length ≤ 5) := by
  have key : ∀ k n, n < 10 ^ (k + 1) → (digL n).length ≤ k + 1 := by
    intro k
    induction k with
    | zero => intro n h; rw [digL_lo (by omega)]; simp
    | succ k ih =>
      intro n h
      by_cases h10 : n < 10
      · rw [digL_lo h10]; simp
      · rw [digL_hi (by omega), List.length_append]
        have := ih (n / 10) (by rw [Nat.pow_succ] at h; omega)
        simp; omega
  refine ⟨?_, fun h => key 4 n h⟩
  by_cases h : n < 10
  · rw [digL_lo h]; simp
  · rw [digL_hi (by omega)]; simp
/-- Digits mean their number. -/
def valL (l : List UInt8) (n : Int) : Int := l.foldl (fun n b => 10 * n + ((b.toNat : Int) - 48)) n
theorem valL_digL (n : Nat) : valL (digL n) 0 = n := by
  induction n using Nat.strongRecOn with
  | ind n ih =>
    by_cases h : n < 10
    · rw [digL_lo h]
      simp only [valL, List.foldl_cons, List.foldl_nil, dig_nat]
      omega
    · rw [digL_hi (by omega)]
      have := ih (n / 10) (by omega)
      unfold valL at this ⊢
      rw [List.foldl_append, this]
      simp only [List.foldl_cons, List.foldl_nil, dig_nat]
      omega
theorem valL_mono : ∀ (l : List UInt8) (n : Int), (∀ b ∈ l, isDigit (b.toNat : Int) = true) → 0 ≤ n → n ≤ valL l n
  | [], n, _, _ => Int.le_refl _
  | b :: l, n, hd, h0 => by
    have hb := hd b (by simp)
    simp only [isDigit, Bool.and_eq_true, decide_eq_true_eq] at hb
    have := valL_mono l (10 * n + ((b.toNat : Int) - 48)) (fun c hc => hd c (by simp [hc])) (by omega)
    unfold valL at this ⊢
    rw [List.foldl_cons]
    omega
theorem numL_val : ∀ (l : List UInt8) (n : Int), (∀ b ∈ l, isDigit (b.toNat : Int) = true) → 0 ≤ n → valL l n ≤ 32767 → numL l n = valL l n
  | [], n, _, _, _ => rfl
  | b :: l, n, hd, h0, h1 => by
    have hb := hd b (by simp)
    simp only [isDigit, Bool.and_eq_true, decide_eq_true_eq] at hb
    have hm := valL_mono l (10 * n + ((b.toNat : Int) - 48)) (fun c hc => hd c (by simp [hc])) (by omega)
    have h1' : valL l (10 * n + ((b.toNat : Int) - 48)) ≤ 32767 := by
      unfold valL at h1 ⊢; rwa [List.foldl_cons] at h1
    simp only [numL]
    rw [if_neg (by omega), numL_val l _ (fun c hc => hd c (by simp [hc])) (by omega) h1']
    rfl
theorem numL_digL {n : Nat} (h : n ≤ 32767) : numL (digL n) 0 = n := by
  rw [numL_val _ 0 (digL_all n) (Int.le_refl _) (by rw [valL_digL]; omega), valL_digL]

theorem runL_full {p : Int → Bool} : ∀ {l m : List UInt8} {x : UInt8}, (∀ b ∈ l, p (b.toNat : Int) = true) → p (x.toNat : Int) = false → runL p (l ++ x :: m) = l.length
  | [], m, x, _, hx => by simp [runL, hx]
  | b :: l, m, x, h, hx => by
    rw [List.cons_append]
    simp only [runL, h b (by simp), if_true, List.length_cons]
    rw [runL_full (fun c hc => h c (by simp [hc])) hx]
theorem digit_nums {b : UInt8} (h : isDigit (b.toNat : Int) = true) : 48 ≤ b.toNat ∧ b.toNat ≤ 57 := by
  simp only [isDigit, Bool.and_eq_true, decide_eq_true_eq] at h; omega
theorem digit_low {l : List UInt8} (h : ∀ b ∈ l, isDigit (b.toNat : Int) = true) : l.map lowB = l := by
  induction l with
  | nil => rfl
  | cons b l ih =>
    have := digit_nums (h b (by simp))
    rw [List.map_cons, ih (fun c hc => h c (by simp [hc])), low_no (by omega)]
/-- One number, as a name and as a number. -/
def wordL (n : Nat) : List UInt8 := 78 :: digL n ++ 10 :: (digL n ++ [32])
theorem scan_word (n p : Nat) (l : List UInt8) (hn : n ≤ 32767) : scanD p (wordL n ++ l) = consT (⟨1, 110 :: digL n, 0⟩, p) (consT (⟨2, [], n⟩, p + (digL n).length + 2) (scanD (p + (wordL n).length) l)) := by
  have hall := digL_all n
  obtain ⟨h1, h5⟩ := digL_len n
  have h5 := h5 (by omega)
  have hw : wordL n ++ l = 78 :: (digL n ++ 10 :: (digL n ++ 32 :: l)) := by simp [wordL]
  have hr1 : runL isLD (78 :: (digL n ++ 10 :: (digL n ++ 32 :: l))) = (digL n).length + 1 := by
    simp only [runL]
    rw [if_pos (by decide), runL_full (fun b hb => by unfold isLD; rw [hall b hb]; simp) (by decide)]
  have ht1 : tokR (78 :: (digL n ++ 10 :: (digL n ++ 32 :: l))) = (⟨1, 110 :: digL n, 0⟩, (digL n).length + 1, 0) := by
    simp only [tokR]
    rw [if_pos (by decide), hr1, if_neg (by omega)]
    have : (78 :: (digL n ++ 10 :: (digL n ++ 32 :: l))).take ((digL n).length + 1) = 78 :: digL n := by
      rw [List.take_succ_cons, List.take_left]
    rw [this, List.map_cons, digit_low hall]
    rfl
  rw [hw, scanD_cons, if_neg (by decide), if_neg (by decide), ht1, if_neg (by simp)]
  congr 1
  have hd1 : (78 :: (digL n ++ 10 :: (digL n ++ 32 :: l))).drop ((digL n).length + 1) = 10 :: (digL n ++ 32 :: l) := by
    rw [List.drop_succ_cons, List.drop_left]
  dsimp only
  rw [hd1, scanD_cons, show isBlank 10 = true from rfl, if_pos rfl]
  obtain ⟨c, r, hcr⟩ : ∃ c r, digL n = c :: r := by
    cases h : digL n with
    | nil => rw [h] at h1; simp at h1
    | cons c r => exact ⟨c, r, rfl⟩
  have hc := hall c (by rw [hcr]; simp)
  have hcn := digit_nums hc
  have hnl : isLetter (c.toNat : Int) = false := by simp [isLetter]; omega
  have hnb : isBlank c = false := by
    simp only [isBlank, Bool.or_eq_false_iff, beq_eq_false_iff_ne, ne_eq, ← UInt8.toNat_inj]
    exact ⟨⟨⟨by show c.toNat ≠ 32; omega, by show c.toNat ≠ 9; omega⟩, by show c.toNat ≠ 10; omega⟩, by show c.toNat ≠ 13; omega⟩
  have hn123 : c ≠ 123 := by intro h; subst h; simp at hcn
  have hr2 : runL isDigit (digL n ++ 32 :: l) = (digL n).length := runL_full hall (by decide)
  have ht2 : tokR (digL n ++ 32 :: l) = (⟨2, [], n⟩, (digL n).length, 0) := by
    rw [hcr, List.cons_append]
    simp only [tokR]
    rw [hnl, if_neg (by simp), hc, if_pos rfl, ← List.cons_append, ← hcr, hr2, List.take_left, numL_digL hn, if_neg (by omega)]
  rw [hcr, List.cons_append, scanD_cons, hnb, if_neg (by simp), if_neg hn123, ← List.cons_append, ← hcr, ht2, if_neg (by simp)]
  dsimp only
  rw [List.drop_left, scanD_cons, show isBlank 32 = true from rfl, if_pos rfl]
  congr 2
  simp [wordL]; omega
/-- Numbers, each told as a name, and as a number. -/
def wordsL (l : List Nat) : List UInt8 := l.flatMap wordL
def wordsT : Nat → List Nat → List (Tk × Nat)
  | _, [] => []
  | p, n :: l => (⟨1, 110 :: digL n, 0⟩, p) :: (⟨2, [], n⟩, p + (digL n).length + 2) :: wordsT (p + (wordL n).length) l
theorem scan_words : ∀ (l : List Nat) (p : Nat), (∀ n ∈ l, n ≤ 32767) → scanD p (wordsL l) = (wordsT p l, 0, 0)
  | [], p, _ => rfl
  | n :: l, p, h => by
    rw [wordsL, List.flatMap_cons, scan_word n p _ (h n (by simp)), show l.flatMap wordL = wordsL l from rfl, scan_words l _ (fun m hm => h m (by simp [hm]))]
    simp [consT, wordsT]
theorem wordsT_len : ∀ (l : List Nat) (p : Nat), (wordsT p l).length = 2 * l.length
  | [], p => rfl
  | n :: l, p => by simp only [wordsT, List.length_cons, wordsT_len l]; omega
theorem wordsT_get : ∀ {l : List Nat} {p k n : Nat}, l[k]? = some n → ∃ q q', (wordsT p l)[2 * k]? = some (⟨1, 110 :: digL n, 0⟩, q) ∧ (wordsT p l)[2 * k + 1]? = some (⟨2, [], n⟩, q')
  | [], p, k, n, h => by simp at h
  | m :: l, p, 0, n, h => by
    simp only [List.getElem?_cons_zero, Option.some.injEq] at h
    subst h
    exact ⟨p, _, rfl, rfl⟩
  | m :: l, p, k + 1, n, h => by
    obtain ⟨q, q', h1, h2⟩ := wordsT_get (l := l) (p := p + (wordL m).length) (k := k) (n := n) (by simpa using h)
    refine ⟨q, q', ?_, ?_⟩
    · rw [show 2 * (k + 1) = 2 * k + 1 + 1 by omega]; simpa [wordsT] using h1
    · rw [show 2 * (k + 1) + 1 = 2 * k + 1 + 1 + 1 by omega]; simpa [wordsT] using h2
end Go.Proofs.YteddjcpaeoceeaaGreatDoor.Sc
namespace Go.Proofs.YteddjcpaeoceeaaGreatDoor.Sc
open Go
set_option linter.unusedVariables false
set_option maxRecDepth 100000
set_option linter.unusedSimpArgs false
theorem scan_blank (p : Nat) (l : List UInt8) : scanD p (32 :: l) = scanD (p + 1) l := by
  rw [scanD_cons, show isBlank 32 = true from rfl, if_pos rfl]
/-- A word of small letters and digits. -/
theorem scan_name (c : UInt8) (w : List UInt8) (x : UInt8) (l : List UInt8) (p : Nat) (hc : isLetter (c.toNat : Int) = true) (hall : ∀ b ∈ c :: w, isLD (b.toNat : Int) = true) (hlow : (c :: w).map lowB = c :: w) (hlen : (c :: w).length ≤ 16) (hx : isLD (x.toNat : Int) = false) :
    scanD p (c :: w ++ x :: l) = consT (⟨1, c :: w, 0⟩, p) (scanD (p + (c :: w).length) (x :: l)) := by
  have hr1 : runL isLD (c :: w ++ x :: l) = (c :: w).length := runL_full hall hx
  have ht1 : tokR (c :: w ++ x :: l) = (⟨1, c :: w, 0⟩, (c :: w).length, 0) := by
    rw [List.cons_append] at hr1 ⊢
    simp only [tokR]
    rw [if_pos hc, hr1, if_neg (by omega)]
    rw [← List.cons_append, List.take_left, hlow]
  have hcl : (97 ≤ c.toNat ∧ c.toNat ≤ 122) ∨ (65 ≤ c.toNat ∧ c.toNat ≤ 90) := by
    simp only [isLetter, Bool.or_eq_true, Bool.and_eq_true, decide_eq_true_eq] at hc; omega
  have hnb : isBlank c = false := by
    simp only [isBlank, Bool.or_eq_false_iff, beq_eq_false_iff_ne, ne_eq, ← UInt8.toNat_inj]
    exact ⟨⟨⟨by show c.toNat ≠ 32; omega, by show c.toNat ≠ 9; omega⟩, by show c.toNat ≠ 10; omega⟩, by show c.toNat ≠ 13; omega⟩
  have hn123 : c ≠ 123 := by intro h; subst h; simp at hcl
  have h := scanD_cons p c (w ++ x :: l)
  rw [hnb, if_neg (by simp), if_neg hn123, ← List.cons_append, ht1, if_neg (by simp)] at h
  dsimp only at h
  rw [List.drop_left] at h
  rw [List.cons_append] at h ⊢
  exact h
theorem scan_num (n : Nat) (x : UInt8) (l : List UInt8) (p : Nat) (hn : n ≤ 32767) (hx : isDigit (x.toNat : Int) = false) :
    scanD p (digL n ++ x :: l) = consT (⟨2, [], n⟩, p) (scanD (p + (digL n).length) (x :: l)) := by
  have hall := digL_all n
  obtain ⟨h1, -⟩ := digL_len n
  obtain ⟨c, r, hcr⟩ : ∃ c r, digL n = c :: r := by
    cases h : digL n with
    | nil => rw [h] at h1; simp at h1
    | cons c r => exact ⟨c, r, rfl⟩
  have hc := hall c (by rw [hcr]; simp)
  have hcn := digit_nums hc
  have hnl : isLetter (c.toNat : Int) = false := by simp [isLetter]; omega
  have hnb : isBlank c = false := by
    simp only [isBlank, Bool.or_eq_false_iff, beq_eq_false_iff_ne, ne_eq, ← UInt8.toNat_inj]
    exact ⟨⟨⟨by show c.toNat ≠ 32; omega, by show c.toNat ≠ 9; omega⟩, by show c.toNat ≠ 10; omega⟩, by show c.toNat ≠ 13; omega⟩
  have hn123 : c ≠ 123 := by intro h; subst h; simp at hcn
  have hr2 : runL isDigit (digL n ++ x :: l) = (digL n).length := runL_full hall hx
  have ht2 : tokR (digL n ++ x :: l) = (⟨2, [], n⟩, (digL n).length, 0) := by
    rw [hcr, List.cons_append]
    simp only [tokR]
    rw [hnl, if_neg (by simp), hc, if_pos rfl, ← List.cons_append, ← hcr, hr2, List.take_left, numL_digL hn, if_neg (by omega)]
  have h := scanD_cons p c (r ++ x :: l)
  rw [hnb, if_neg (by simp), if_neg hn123, ← List.cons_append, ← hcr, ht2, if_neg (by simp)] at h
  dsimp only at h
  rw [List.drop_left] at h
  exact h
/-- A sign of one byte, that begins none of two. -/
theorem scan_sign (c : UInt8) (l : List UInt8) (p : Nat) (h1 : onesL.contains c = true) (h2 : c ≠ 58 ∧ c ≠ 60 ∧ c ≠ 62) :
    scanD p (c :: l) = consT (⟨3, [c], 0⟩, p) (scanD (p + 1) l) := by
  have hone : signR (c :: l) = 1 := by
    cases l with
    | nil => simp only [signR]; rw [if_pos h1]
    | cons d r =>
      simp only [signR]
      rw [if_neg, if_pos h1]
      simp [two, h2]
  have hm : ∀ c, onesL.contains c = true → isLetter (c.toNat : Int) = false ∧ isDigit (c.toNat : Int) = false ∧ isBlank c = false ∧ c ≠ 123 := by
    intro c hc
    simp only [onesL, List.contains_cons, List.contains_nil, Bool.or_false, Bool.or_eq_true, beq_iff_eq] at hc
    rcases hc with rfl | rfl | rfl | rfl | rfl | rfl | rfl | rfl | rfl | rfl | rfl | rfl | rfl | rfl <;> decide
  obtain ⟨m1, m2, m3, m4⟩ := hm c h1
  have ht : tokR (c :: l) = (⟨3, [c], 0⟩, 1, 0) := by
    simp only [tokR]
    rw [m1, if_neg (by simp), m2, if_neg (by simp), hone, if_neg (by simp)]
    rfl
  rw [scanD_cons, m3, if_neg (by simp), if_neg m4, ht, if_neg (by simp)]
  rfl
end Go.Proofs.YteddjcpaeoceeaaGreatDoor.Sc
namespace Go.Proofs.YteddjcpaeoceeaaGreatDoor.Cm
open Go
set_option linter.unusedVariables false
set_option maxRecDepth 100000
set_option linter.unusedSimpArgs false
def shD (D : Nat) : Pm := ⟨fun x => x + D, fun x h => by omega⟩
theorem comp_ahead (c bks s : List UInt8) (hc : ∀ b ∈ c, b ≠ 125) (hb : ∀ b ∈ bks, Sc.isBlank b = true) :
    (compF (123 :: c ++ 125 :: (bks ++ s))).1 = (compF s).1 ∧ (compF (123 :: c ++ 125 :: (bks ++ s))).2.2 = (compF s).2.2 ∧ ((compF s).2.2 ≠ 0 → (compF (123 :: c ++ 125 :: (bks ++ s))).2.1 = (compF s).2.1 + ((c.length + 2 + bks.length : Nat) : Int)) := by
  generalize hD : c.length + 2 + bks.length = D
  have hl : (123 :: c ++ 125 :: (bks ++ s)).length = s.length + D := by simp; omega
  have h := Sc.scan_ahead c bks s hc hb
  rw [hD] at h
  unfold compF
  rw [h, hl]
  generalize Sc.scanD 0 s = r
  obtain ⟨l, pl, e⟩ := r
  unfold Sc.shiftR
  dsimp only
  by_cases he : e = 0
  · simp only [he, if_true, ne_eq, not_true_eq_false, if_false]
    have h0 : cs0 (l.map fun t => (t.1, t.2 + D)) ((s.length + D : Nat) : Int) = sh (shD D) (cs0 l (s.length : Int)) := by
      unfold cs0 sh shD
      simp
      intro a b _; omega
    rw [List.length_map, h0, program_sh]
    generalize mProgram (l.length + 1) (cs0 l (s.length : Int)) = q
    have h1 : (if (sh (shD D) q).e = 0 ∧ (sh (shD D) q).code.length > 4096 then mStop 4 ((s.length + D : Nat) : Int) (sh (shD D) q) else sh (shD D) q) = sh (shD D) (if q.e = 0 ∧ q.code.length > 4096 then mStop 4 (s.length : Int) q else q) := by
      have := stop_sh (shD D) (show (4 : Int) ≠ 0 by decide) (s.length : Int) q
      rw [Int.natCast_add]
      dsimp only [shD] at this ⊢
      rw [this]
      exact ite_sh _ _ _
    rw [h1]
    generalize (if q.e = 0 ∧ q.code.length > 4096 then mStop 4 (s.length : Int) q else q) = q2
    by_cases hq : q2.e = 0
    · have hq2 : (sh (shD D) q2).e = 0 := hq
      simp only [hq, hq2]
      refine ⟨by first | rfl | trivial, by first | rfl | trivial, fun h => absurd rfl h⟩
    · have hq2 : ¬ (sh (shD D) q2).e = 0 := hq
      simp only [hq, hq2]
      refine ⟨by first | rfl | trivial, by first | rfl | trivial, fun _ => ?_⟩
      show (sh (shD D) q2).bad = q2.bad + _
      unfold sh
      rw [if_neg hq]
      rfl
  · simp only [he, ne_eq, not_false_eq_true, if_true, if_false]
    refine ⟨by first | rfl | trivial, by first | rfl | trivial, fun _ => ?_⟩
    omega
/-- No further than B. -/
def shB (B : Nat) : Pm := ⟨fun x => max 0 (min x B), fun x h => by omega⟩
theorem scan_place : ∀ (n p : Nat) (l : List UInt8), l.length ≤ n → (∀ t ∈ (Sc.scanD p l).1, t.2 ≤ p + l.length) ∧ ((Sc.scanD p l).2.1 ≤ p + l.length)
  | n, p, [], _ => by simp [Sc.scanD_nil]
  | 0, p, c :: r, h => by simp at h
  | n + 1, p, c :: r, h => by
    simp only [List.length_cons, Nat.add_le_add_iff_right] at h
    cases Sc.step1 p c r with
    | blank hb he =>
      rw [he]
      have := scan_place n (p + 1) r h
      refine ⟨fun t ht => ?_, ?_⟩
      · have := this.1 t ht; simp only [List.length_cons]; omega
      · have := this.2; simp only [List.length_cons]; omega
    | open' hb hc k hk hneg he => rw [he]; simp
    | comment hb hc k hk hle he =>
      rw [he]
      have := scan_place n (p + k + 1) ((c :: r).drop (k + 1)) (by simp; omega)
      simp only [List.length_drop] at this
      simp only [List.length_cons] at this hle ⊢
      refine ⟨fun t ht => ?_, ?_⟩
      · have := this.1 t ht; omega
      · have := this.2; omega
    | bad hb hc ht he => rw [he]; simp
    | tok hb hc ht h1 h2 he =>
      rw [he]
      have := scan_place n (p + (Sc.tokR (c :: r)).2.1) ((c :: r).drop (Sc.tokR (c :: r)).2.1) (by simp; omega)
      simp only [List.length_drop] at this
      simp only [List.length_cons] at this h2 ⊢
      unfold Sc.consT
      split
      · refine ⟨fun t ht => ?_, ?_⟩
        · rcases List.mem_cons.1 ht with rfl | ht
          · dsimp only; omega
          · have := this.1 t ht; omega
        · have := this.2; dsimp only; omega
      · refine ⟨fun t ht => (by cases ht), ?_⟩
        have := this.2; dsimp only; omega
/-- The place of an error stands in the text, or at its end. -/
theorem comp_place (s : List UInt8) : (compF s).2.2 ≠ 0 → 0 ≤ (compF s).2.1 ∧ (compF s).2.1 ≤ (s.length : Int) := by
  unfold compF
  have hp := scan_place _ 0 s (Nat.le_refl _)
  generalize Sc.scanD 0 s = r at *
  obtain ⟨l, pl, e⟩ := r
  dsimp only at *
  by_cases he : e ≠ 0
  · simp only [if_pos he]
    intro _
    have := hp.2
    omega
  · simp only [if_neg he]
    have h0 : cs0 l (s.length : Int) = sh (shB s.length) (cs0 l (s.length : Int)) := by
      unfold cs0 sh shB
      have hl : l.map (fun t => (t.1, (max 0 (min (t.2 : Int) (s.length : Int))).toNat)) = l := by
        conv => rhs; rw [← List.map_id l]
        refine List.map_congr_left fun t ht => ?_
        have := hp.1 t ht
        show (t.1, _) = t
        rw [show (max 0 (min (t.2 : Int) (s.length : Int))).toNat = t.2 by omega]
      dsimp only
      rw [hl]
      simp
    have h1 := program_sh (d := shB s.length) (l.length + 1) (cs0 l (s.length : Int))
    rw [← h0] at h1
    generalize mProgram (l.length + 1) (cs0 l (s.length : Int)) = q at *
    have hb : q.e ≠ 0 → 0 ≤ q.bad ∧ q.bad ≤ (s.length : Int) := fun hq => by
      have h2 : q.bad = (sh (shB s.length) q).bad := congrArg CS.bad h1
      unfold sh at h2
      rw [if_neg hq] at h2
      dsimp only [shB] at h2
      omega
    have hb2 : (if q.e = 0 ∧ q.code.length > 4096 then mStop 4 (s.length : Int) q else q).e ≠ 0 → 0 ≤ (if q.e = 0 ∧ q.code.length > 4096 then mStop 4 (s.length : Int) q else q).bad ∧ (if q.e = 0 ∧ q.code.length > 4096 then mStop 4 (s.length : Int) q else q).bad ≤ (s.length : Int) := by
      split
      · rename_i h2
        intro _
        simp only [mStop, h2.1, if_true]
        omega
      · exact hb
    generalize (if q.e = 0 ∧ q.code.length > 4096 then mStop 4 (s.length : Int) q else q) = q2 at *
    intro h
    by_cases hc : q2.e ≠ 0
    · rw [if_pos hc]; exact hb2 hc
    · rw [if_neg hc] at h; exact absurd rfl h
end Go.Proofs.YteddjcpaeoceeaaGreatDoor.Cm
namespace Go.Proofs.YteddjcpaeoceeaaGreatDoor.Cm
open Go
set_option linter.unusedVariables false
set_option maxRecDepth 100000
set_option linter.unusedSimpArgs false
def kw (l : List UInt8) : Sc.Tk × Nat := (⟨1, l, 0⟩, 0)
def sg (l : List UInt8) : Sc.Tk × Nat := (⟨3, l, 0⟩, 0)
def nu (n : Nat) : Sc.Tk × Nat := (⟨2, [], n⟩, 0)
def at0 (l : List (Sc.Tk × Nat)) : List (Sc.Tk × Nat) := l.map fun t => (t.1, 0)
/-- A text has just these tokens, wherever they stand. -/
def S0 (l : List UInt8) (ts : List (Sc.Tk × Nat)) : Prop := ∀ p, (Sc.scanD p l).2.2 = 0 ∧ at0 (Sc.scanD p l).1 = ts
theorem s0_cons {l m : List UInt8} {ts : List (Sc.Tk × Nat)} {t : Sc.Tk} {k : Nat} (h : S0 m ts) (hs : ∀ p, Sc.scanD p l = Sc.consT (t, p) (Sc.scanD (p + k) m)) : S0 l ((t, 0) :: ts) := by
  intro p
  obtain ⟨h1, h2⟩ := h (p + k)
  rw [hs]
  unfold Sc.consT
  rw [if_pos h1]
  exact ⟨h1, by simp only [at0, List.map_cons] at h2 ⊢; rw [h2]⟩
theorem s0_nil : S0 [] [] := fun p => ⟨rfl, rfl⟩
theorem s0_blank {l : List UInt8} {ts : List (Sc.Tk × Nat)} (h : S0 l ts) : S0 (32 :: l) ts := fun p => by rw [Sc.scan_blank]; exact h (p + 1)
theorem s0_name {c : UInt8} {w : List UInt8} {x : UInt8} {l : List UInt8} {ts : List (Sc.Tk × Nat)} (h : S0 (x :: l) ts) (hc : Sc.isLetter (c.toNat : Int) = true) (hall : ∀ b ∈ c :: w, Sc.isLD (b.toNat : Int) = true) (hlow : (c :: w).map Sc.lowB = c :: w) (hlen : (c :: w).length ≤ 16) (hx : Sc.isLD (x.toNat : Int) = false) : S0 (c :: w ++ x :: l) (kw (c :: w) :: ts) :=
  s0_cons h fun p => Sc.scan_name c w x l p hc hall hlow hlen hx
theorem s0_num {n : Nat} {x : UInt8} {l : List UInt8} {ts : List (Sc.Tk × Nat)} (h : S0 (x :: l) ts) (hn : n ≤ 32767) (hx : Sc.isDigit (x.toNat : Int) = false) : S0 (Sc.digL n ++ x :: l) (nu n :: ts) :=
  s0_cons h fun p => Sc.scan_num n x l p hn hx
theorem s0_sign {c : UInt8} {l : List UInt8} {ts : List (Sc.Tk × Nat)} (h : S0 l ts) (h1 : Sc.onesL.contains c = true) (h2 : c ≠ 58 ∧ c ≠ 60 ∧ c ≠ 62) : S0 (c :: l) (sg [c] :: ts) :=
  s0_cons h fun p => Sc.scan_sign c l p h1 h2
def vN (i : Nat) : List UInt8 := 118 :: Sc.digL i
/-- The tokens, and the bytes, of one declaration. -/
def pT (p : Nat × Nat) : List (Sc.Tk × Nat) := if p.1 = 0 then [kw [118, 97, 114], kw (vN p.2), sg [59]] else [kw [118, 97, 114], kw (vN p.2), sg [91], nu p.1, sg [93], sg [59]]
def pB (p : Nat × Nat) : List UInt8 := if p.1 = 0 then [118, 97, 114, 32, 118] ++ Sc.digL p.2 ++ [59, 32] else [118, 97, 114, 32, 118] ++ Sc.digL p.2 ++ [91] ++ Sc.digL p.1 ++ [93, 59, 32]
theorem s0_vn {i : Nat} {x : UInt8} {l : List UInt8} {ts : List (Sc.Tk × Nat)} (h : S0 (x :: l) ts) (hi : i < 20) (hx : Sc.isLD (x.toNat : Int) = false) : S0 (118 :: (Sc.digL i ++ x :: l)) (kw (vN i) :: ts) := by
  have hd := Sc.digL_all i
  have hl := (Sc.digL_len i).2 (by omega)
  exact s0_name h (by decide) (fun b hb => by
    rcases List.mem_cons.1 hb with rfl | hb
    · decide
    · unfold Sc.isLD; rw [hd b hb]; simp) (by rw [List.map_cons, Sc.digit_low hd]; rfl) (by simp only [List.length_cons]; omega) hx
theorem s0_piece {p : Nat × Nat} {l : List UInt8} {ts : List (Sc.Tk × Nat)} (h : S0 l ts) (hi : p.2 < 20) (hn : p.1 < 1000) : S0 (pB p ++ l) (pT p ++ ts) := by
  unfold pB pT
  by_cases h0 : p.1 = 0
  · rw [if_pos h0, if_pos h0]
    have h1 : S0 (59 :: 32 :: l) (sg [59] :: ts) := s0_sign (s0_blank h) (by decide) (by decide)
    have h2 := s0_vn h1 hi (by decide)
    have h3 : S0 (118 :: [97, 114] ++ 32 :: (118 :: (Sc.digL p.2 ++ 59 :: 32 :: l))) (kw (118 :: [97, 114]) :: kw (vN p.2) :: sg [59] :: ts) := s0_name (s0_blank h2) (by decide) (by decide) (by decide) (by decide) (by decide)
    simpa using h3
  · rw [if_neg h0, if_neg h0]
    have h1 : S0 (93 :: 59 :: 32 :: l) (sg [93] :: sg [59] :: ts) := s0_sign (s0_sign (s0_blank h) (by decide) (by decide)) (by decide) (by decide)
    have h2 : S0 (91 :: (Sc.digL p.1 ++ 93 :: 59 :: 32 :: l)) (sg [91] :: nu p.1 :: sg [93] :: sg [59] :: ts) := s0_sign (s0_num h1 (by omega) (by decide)) (by decide) (by decide)
    have h3 := s0_vn h2 hi (by decide)
    have h4 : S0 (118 :: [97, 114] ++ 32 :: (118 :: (Sc.digL p.2 ++ 91 :: (Sc.digL p.1 ++ 93 :: 59 :: 32 :: l)))) (kw (118 :: [97, 114]) :: kw (vN p.2) :: sg [91] :: nu p.1 :: sg [93] :: sg [59] :: ts) := s0_name (s0_blank h3) (by decide) (by decide) (by decide) (by decide) (by decide)
    simpa using h4
def hdT : List UInt8 := [109, 111, 100, 117, 108, 101, 32, 97, 59, 32]
def enT : List UInt8 := [101, 110, 100, 46]
/-- The whole text. -/
def dataT (ps : List (Nat × Nat)) : List UInt8 := hdT ++ ps.flatMap pB ++ enT
def dataK (ps : List (Nat × Nat)) : List (Sc.Tk × Nat) := [kw [109, 111, 100, 117, 108, 101], kw [97], sg [59]] ++ ps.flatMap pT ++ [kw [101, 110, 100], sg [46]]
theorem s0_pieces : ∀ (ps : List (Nat × Nat)), (∀ p ∈ ps, p.1 < 1000 ∧ p.2 < 20) → S0 (ps.flatMap pB ++ enT) (ps.flatMap pT ++ [kw [101, 110, 100], sg [46]])
  | [], _ => by
    have h1 : S0 [46] [sg [46]] := s0_sign s0_nil (by decide) (by decide)
    have h2 : S0 (101 :: [110, 100] ++ 46 :: []) (kw (101 :: [110, 100]) :: [sg [46]]) := s0_name h1 (by decide) (by decide) (by decide) (by decide) (by decide)
    exact h2
  | p :: ps, h => by
    have ih := s0_pieces ps (fun q hq => h q (by simp [hq]))
    have := s0_piece ih (h p (by simp)).2 (h p (by simp)).1
    simpa using this
theorem s0_data (ps : List (Nat × Nat)) (h : ∀ p ∈ ps, p.1 < 1000 ∧ p.2 < 20) : S0 (dataT ps) (dataK ps) := by
  have h1 : S0 (59 :: 32 :: (ps.flatMap pB ++ enT)) (sg [59] :: (ps.flatMap pT ++ [kw [101, 110, 100], sg [46]])) := s0_sign (s0_blank (s0_pieces ps h)) (by decide) (by decide)
  have h2 : S0 (97 :: [] ++ 59 :: 32 :: (ps.flatMap pB ++ enT)) (kw (97 :: []) :: sg [59] :: (ps.flatMap pT ++ [kw [101, 110, 100], sg [46]])) := s0_name h1 (by decide) (by decide) (by decide) (by decide) (by decide)
  have h3 : S0 (109 :: [111, 100, 117, 108, 101] ++ 32 :: (97 :: [] ++ 59 :: 32 :: (ps.flatMap pB ++ enT))) (kw (109 :: [111, 100, 117, 108, 101]) :: kw (97 :: []) :: sg [59] :: (ps.flatMap pT ++ [kw [101, 110, 100], sg [46]])) := s0_name (s0_blank h2) (by decide) (by decide) (by decide) (by decide) (by decide)
  unfold dataT dataK hdT
  simpa using h3
/-- All places are nought. -/
def shO : Pm := ⟨fun _ => 0, fun _ _ => Int.le_refl 0⟩
/-- The object of a text whose tokens are known, if none is wrong. -/
theorem comp_toks {s : List UInt8} {ts : List (Sc.Tk × Nat)} (h : S0 s ts) {q : CS} (hq : mProgram (ts.length + 1) (cs0 ts 0) = q) (he : q.e = 0) (hc : q.code.length ≤ 4096) : (compF s).2.2 = 0 ∧ (compF s).2.1 = 0 ∧ compF s = (some ⟨q.name, q.code, q.data, q.exps, q.imps, q.pats⟩, 0, 0) := by
  obtain ⟨h1, h2⟩ := h 0
  have key : compF s = (some ⟨q.name, q.code, q.data, q.exps, q.imps, q.pats⟩, 0, 0) := by
    unfold compF
    generalize Sc.scanD 0 s = r at *
    obtain ⟨l, pl, e⟩ := r
    dsimp only at h1 h2
    subst h1
    dsimp only
    rw [if_neg (by simp)]
    have hs : cs0 ts 0 = sh shO (cs0 l (s.length : Int)) := by
      rw [← h2]; unfold cs0 sh shO at0; simp
    have hl : ts.length = l.length := by rw [← h2]; simp [at0]
    have hp := program_sh (d := shO) (l.length + 1) (cs0 l (s.length : Int))
    rw [← hs, ← hl, hq] at hp
    rw [← hl]
    generalize mProgram (ts.length + 1) (cs0 l (s.length : Int)) = q2 at *
    have e2 : q2.e = 0 := by have := congrArg CS.e hp; rw [e_sh] at this; rw [← this]; exact he
    have c2 : q2.code = q.code := (congrArg CS.code hp).symm
    rw [if_neg (show ¬ (q2.e = 0 ∧ q2.code.length > 4096) by rw [c2]; omega), if_neg (show ¬ (q2.e ≠ 0) by simpa using e2)]
    rw [hp]
    rfl
  rw [key]
  exact ⟨rfl, rfl, rfl⟩
end Go.Proofs.YteddjcpaeoceeaaGreatDoor.Cm
namespace Go.Proofs.YteddjcpaeoceeaaGreatDoor.Cm
open Go
set_option linter.unusedVariables false
set_option maxRecDepth 100000
set_option linter.unusedSimpArgs false
def usumA : List UInt8 := [112, 114, 111, 103, 114, 97, 109, 32, 97, 59, 32, 118, 97, 114, 32, 105, 59, 32, 118, 97, 114, 32, 110, 59, 32, 98, 101, 103, 105, 110, 32, 119, 114, 105, 116, 101, 32, 48]
def usumM : List UInt8 := [59, 32, 119, 104, 105, 108, 101, 32, 105, 32, 60, 32]
def usumZ : List UInt8 := [32, 100, 111, 32, 105, 32, 58, 61, 32, 105, 32, 43, 32, 49, 59, 32, 110, 32, 58, 61, 32, 110, 32, 43, 32, 105, 32, 101, 110, 100, 59, 32, 119, 114, 105, 116, 101, 32, 110, 32, 101, 110, 100, 46]
def usumP (ks : List Nat) : List UInt8 := ks.flatMap fun k => 43 :: Sc.digL k
def usumT (ks : List Nat) (m : Nat) : List UInt8 := usumA ++ usumP ks ++ (usumM ++ Sc.digL m ++ usumZ)
def usumZK : List (Sc.Tk × Nat) := [kw [100, 111], kw [105], sg [58, 61], kw [105], sg [43], nu 1, sg [59], kw [110], sg [58, 61], kw [110], sg [43], kw [105], kw [101, 110, 100], sg [59], kw [119, 114, 105, 116, 101], kw [110], kw [101, 110, 100], sg [46]]
def usumPK (ks : List Nat) : List (Sc.Tk × Nat) := ks.flatMap fun k => [sg [43], nu k]
def usumK (ks : List Nat) (m : Nat) : List (Sc.Tk × Nat) := [kw [112, 114, 111, 103, 114, 97, 109], kw [97], sg [59], kw [118, 97, 114], kw [105], sg [59], kw [118, 97, 114], kw [110], sg [59], kw [98, 101, 103, 105, 110], kw [119, 114, 105, 116, 101], nu 0] ++ usumPK ks ++ ([sg [59], kw [119, 104, 105, 108, 101], kw [105], sg [60], nu m] ++ usumZK)
theorem s0_lt {l : List UInt8} {ts : List (Sc.Tk × Nat)} (h : S0 (32 :: l) ts) : S0 (60 :: 32 :: l) (sg [60] :: ts) :=
  s0_cons (k := 1) h fun p => by
    have ht : Sc.tokR (60 :: 32 :: l) = (⟨3, [60], 0⟩, 1, 0) := by kernel_rfl
    rw [Sc.scanD_cons, show Sc.isBlank 60 = false from rfl, if_neg (by simp), if_neg (by decide), ht, if_neg (by simp)]
    rfl
theorem s0_z : S0 usumZ usumZK := fun p => ⟨by kernel_rfl, by kernel_rfl⟩
theorem s0_m (m : Nat) (hm : m ≤ 32767) : S0 (usumM ++ Sc.digL m ++ usumZ) ([sg [59], kw [119, 104, 105, 108, 101], kw [105], sg [60], nu m] ++ usumZK) := by
  have h1 : S0 (Sc.digL m ++ usumZ) (nu m :: usumZK) := s0_num (x := 32) s0_z hm (by decide)
  have h2 := s0_sign (c := 59) (s0_blank (s0_name (c := 119) (w := [104, 105, 108, 101]) (s0_blank (s0_name (c := 105) (w := []) (s0_blank (s0_lt (s0_blank h1))) (by decide) (by decide) (by decide) (by decide) (by decide))) (by decide) (by decide) (by decide) (by decide) (by decide))) (by decide) (by decide)
  exact h2
theorem usumP_head (ks : List Nat) (m : List UInt8) : ∃ x l, usumP ks ++ 59 :: m = x :: l ∧ Sc.isDigit (x.toNat : Int) = false := by
  cases ks with
  | nil => exact ⟨59, m, rfl, by decide⟩
  | cons k ks => exact ⟨43, _, rfl, by decide⟩
theorem s0_ks {m : List UInt8} {ts : List (Sc.Tk × Nat)} (h : S0 (59 :: m) ts) : ∀ ks : List Nat, (∀ k ∈ ks, k ≤ 32767) → S0 (usumP ks ++ 59 :: m) (usumPK ks ++ ts)
  | [], _ => h
  | k :: ks, hk => by
    have ih := s0_ks h ks (fun q hq => hk q (by simp [hq]))
    obtain ⟨x, l, hx, hd⟩ := usumP_head ks m
    have e : usumP (k :: ks) ++ 59 :: m = 43 :: (Sc.digL k ++ x :: l) := by
      rw [← hx]; unfold usumP; simp
    rw [hx] at ih
    rw [e]
    exact s0_sign (s0_num ih (hk k (by simp)) hd) (by decide) (by decide)
theorem s0_sum (ks : List Nat) (m : Nat) (hk : ∀ k ∈ ks, k ≤ 32767) (hm : m ≤ 32767) : S0 (usumT ks m) (usumK ks m) := by
  have h0 := s0_ks (s0_m m hm) ks hk
  obtain ⟨x, l, hx, hd⟩ := usumP_head ks ([32, 119, 104, 105, 108, 101, 32, 105, 32, 60, 32] ++ Sc.digL m ++ usumZ)
  have hx2 : usumP ks ++ (usumM ++ Sc.digL m ++ usumZ) = x :: l := hx
  have h1 : S0 (x :: l) (usumPK ks ++ ([sg [59], kw [119, 104, 105, 108, 101], kw [105], sg [60], nu m] ++ usumZK)) := by
    rw [← hx2]; exact h0
  have h2 := s0_num (n := 0) h1 (by decide) hd
  have h3 := s0_name (c := 119) (w := [114, 105, 116, 101]) (s0_blank h2) (by decide) (by decide) (by decide) (by decide) (by decide)
  have h4 := s0_name (c := 98) (w := [101, 103, 105, 110]) (s0_blank h3) (by decide) (by decide) (by decide) (by decide) (by decide)
  have h5 := s0_sign (c := 59) (s0_blank h4) (by decide) (by decide)
  have h6 := s0_name (c := 110) (w := []) h5 (by decide) (by decide) (by decide) (by decide) (by decide)
  have h7 := s0_name (c := 118) (w := [97, 114]) (s0_blank h6) (by decide) (by decide) (by decide) (by decide) (by decide)
  have h8 := s0_sign (c := 59) (s0_blank h7) (by decide) (by decide)
  have h9 := s0_name (c := 105) (w := []) h8 (by decide) (by decide) (by decide) (by decide) (by decide)
  have h10 := s0_name (c := 118) (w := [97, 114]) (s0_blank h9) (by decide) (by decide) (by decide) (by decide) (by decide)
  have h11 := s0_sign (c := 59) (s0_blank h10) (by decide) (by decide)
  have h12 := s0_name (c := 97) (w := []) h11 (by decide) (by decide) (by decide) (by decide) (by decide)
  have h13 := s0_name (c := 112) (w := [114, 111, 103, 114, 97, 109]) (s0_blank h12) (by decide) (by decide) (by decide) (by decide) (by decide)
  have e : usumT ks m = usumA ++ x :: l := by unfold usumT; rw [List.append_assoc, hx2]
  rw [e]
  have e0 : Sc.digL 0 = [48] := by kernel_rfl
  rw [e0] at h13
  exact h13
end Go.Proofs.YteddjcpaeoceeaaGreatDoor.Cm
namespace Go.Proofs.YteddjcpaeoceeaaGreatDoor.Cm
open Go
set_option linter.unusedVariables false
set_option maxRecDepth 100000
set_option linter.unusedSimpArgs false
def obQ (q : CS) : Ob6 := ⟨q.name, q.code, q.data, q.exps, q.imps, q.pats⟩
def usumQ (ks : List Nat) (m : Nat) : CS := mProgram ((usumK ks m).length + 1) (cs0 (usumK ks m) 0)
def usumPC (ks : List Nat) : List In := ks.flatMap fun (k : Nat) => ([⟨10, 9, 0, 0, (k : Int)⟩, ⟨1, 8, 8, 9, 0⟩] : List In)
/-- What stands behind the sum; at: where the loop begins. -/
def usumZC (at' : Int) (m : Nat) : List In := [⟨1, 4, 8, 0, 0⟩, ⟨20, 0, 0, 0, 2⟩, ⟨12, 8, 0, 0, 0⟩, ⟨10, 9, 0, 0, (m : Int)⟩, ⟨8, 8, 8, 9, 0⟩, ⟨15, 8, 0, 0, 9⟩, ⟨12, 8, 0, 0, 0⟩, ⟨10, 9, 0, 0, 1⟩, ⟨1, 8, 8, 9, 0⟩, ⟨13, 8, 0, 0, 0⟩, ⟨12, 8, 0, 0, 1⟩, ⟨12, 9, 0, 0, 0⟩, ⟨1, 8, 8, 9, 0⟩, ⟨13, 8, 0, 0, 1⟩, ⟨17, 0, 0, 0, at'⟩, ⟨12, 8, 0, 0, 1⟩, ⟨1, 4, 8, 0, 0⟩, ⟨20, 0, 0, 0, 2⟩, ⟨20, 0, 0, 0, 0⟩]
def usumAC : List In := [⟨17, 0, 0, 0, 1⟩, ⟨10, 29, 0, 0, 10⟩, ⟨10, 8, 0, 0, 0⟩]
def usumAC0 : List In := [⟨17, 0, 0, 0, 1⟩, ⟨10, 29, 0, 0, 0⟩, ⟨10, 8, 0, 0, 0⟩]
def usumC (ks : List Nat) (m : Nat) : List In := usumAC ++ usumPC ks ++ usumZC ((2 * ks.length + 5 : Nat) : Int) m
def usumC0 (ks : List Nat) (m : Nat) : List In := usumAC0 ++ usumPC ks ++ usumZC ((2 * ks.length + 5 : Nat) : Int) m
/-- Whether an object is right but for its code. -/
def goodR (o : Ob) : Bool := o.exps.all (goodE o.code.length) && (nameF o.name && (decide (o.code.length ≤ 4096) && (decide (0 ≤ o.data) && (decide (o.data ≤ 32000) && (aloneF (o.exps.map Sy.name) && (aloneF o.imps && (decide (o.pats.length ≤ 4096) && !o.pats.any (fun p => !goodP o.code.length o.imps.length p))))))))
theorem goodR_O {o : Ob} (h : goodR o = true) (hc : ∀ i ∈ o.code, goodI i = true) : goodO o = true := by
  have ha : o.code.any (fun i => !goodI i) = false := by
    rw [List.any_eq_false]; intro i hi; rw [hc i hi]; simp
  unfold goodR at h
  unfold goodO
  rw [ha]
  simpa using h
/-- What is linked of an object that is right. -/
def linkR (o : Ob6) (mem : Int) : List In × Int × Int := match namesF [] [] 0 [obOf o ax0] with
  | none => ([], 0, 6)
  | some syms => if 4096 < (codeF [obOf o ax0]).length ∨ mem < dataF [obOf o ax0] then ([], 0, 4)
    else let r := objsF syms (dataF [obOf o ax0]) mem (codeF [obOf o ax0]) ((baseK [obOf o ax0] 1).zip [obOf o ax0])
      if r.1 = 0 then (r.2, dataF [obOf o ax0], 0) else ([], 0, r.1)
theorem linkR_eq {o : Ob6} {mem : Int} (h : goodO (obOf o ax0) = true) (h0 : 0 ≤ mem) (h1 : mem ≤ 32000) : link1 o mem = linkR o mem := by
  unfold link1 linkF
  rw [if_neg (by simp only [List.length_singleton, List.any_cons, List.any_nil, h]; simp; omega)]
  rfl
def SumF (ks : List Nat) (m : Nat) : Prop := (usumQ ks m).e = 0 ∧ (usumQ ks m).code = usumC0 ks m ∧ goodR (obOf (obQ (usumQ ks m)) ax0) = true ∧ linkR (obQ (usumQ ks m)) 10 = (usumC ks m, 2, 0) ∧ okB (obQ (usumQ ks m)) = true
theorem usum_f0 (m : Nat) : SumF [] m := ⟨by kernel_rfl, by kernel_rfl, by kernel_rfl, by kernel_rfl, by kernel_rfl⟩
theorem usum_f1 (k0 m : Nat) : SumF [k0] m := ⟨by kernel_rfl, by kernel_rfl, by kernel_rfl, by kernel_rfl, by kernel_rfl⟩
theorem usum_f2 (k0 k1 m : Nat) : SumF [k0, k1] m := ⟨by kernel_rfl, by kernel_rfl, by kernel_rfl, by kernel_rfl, by kernel_rfl⟩
theorem usum_f3 (k0 k1 k2 m : Nat) : SumF [k0, k1, k2] m := ⟨by kernel_rfl, by kernel_rfl, by kernel_rfl, by kernel_rfl, by kernel_rfl⟩
theorem usum_f4 (k0 k1 k2 k3 m : Nat) : SumF [k0, k1, k2, k3] m := ⟨by kernel_rfl, by kernel_rfl, by kernel_rfl, by kernel_rfl, by kernel_rfl⟩
theorem usum_f5 (k0 k1 k2 k3 k4 m : Nat) : SumF [k0, k1, k2, k3, k4] m := ⟨by kernel_rfl, by kernel_rfl, by kernel_rfl, by kernel_rfl, by kernel_rfl⟩
theorem usum_f6 (k0 k1 k2 k3 k4 k5 m : Nat) : SumF [k0, k1, k2, k3, k4, k5] m := ⟨by kernel_rfl, by kernel_rfl, by kernel_rfl, by kernel_rfl, by kernel_rfl⟩
theorem usum_f7 (k0 k1 k2 k3 k4 k5 k6 m : Nat) : SumF [k0, k1, k2, k3, k4, k5, k6] m := ⟨by kernel_rfl, by kernel_rfl, by kernel_rfl, by kernel_rfl, by kernel_rfl⟩
theorem usum_f8 (k0 k1 k2 k3 k4 k5 k6 k7 m : Nat) : SumF [k0, k1, k2, k3, k4, k5, k6, k7] m := ⟨by kernel_rfl, by kernel_rfl, by kernel_rfl, by kernel_rfl, by kernel_rfl⟩
theorem usum_f9 (k0 k1 k2 k3 k4 k5 k6 k7 k8 m : Nat) : SumF [k0, k1, k2, k3, k4, k5, k6, k7, k8] m := ⟨by kernel_rfl, by kernel_rfl, by kernel_rfl, by kernel_rfl, by kernel_rfl⟩
theorem usum_f10 (k0 k1 k2 k3 k4 k5 k6 k7 k8 k9 m : Nat) : SumF [k0, k1, k2, k3, k4, k5, k6, k7, k8, k9] m := ⟨by kernel_rfl, by kernel_rfl, by kernel_rfl, by kernel_rfl, by kernel_rfl⟩
theorem usum_f11 (k0 k1 k2 k3 k4 k5 k6 k7 k8 k9 k10 m : Nat) : SumF [k0, k1, k2, k3, k4, k5, k6, k7, k8, k9, k10] m := ⟨by kernel_rfl, by kernel_rfl, by kernel_rfl, by kernel_rfl, by kernel_rfl⟩
theorem usum_f12 (k0 k1 k2 k3 k4 k5 k6 k7 k8 k9 k10 k11 m : Nat) : SumF [k0, k1, k2, k3, k4, k5, k6, k7, k8, k9, k10, k11] m := ⟨by kernel_rfl, by kernel_rfl, by kernel_rfl, by kernel_rfl, by kernel_rfl⟩
theorem usum_f13 (k0 k1 k2 k3 k4 k5 k6 k7 k8 k9 k10 k11 k12 m : Nat) : SumF [k0, k1, k2, k3, k4, k5, k6, k7, k8, k9, k10, k11, k12] m := ⟨by kernel_rfl, by kernel_rfl, by kernel_rfl, by kernel_rfl, by kernel_rfl⟩
theorem usum_f14 (k0 k1 k2 k3 k4 k5 k6 k7 k8 k9 k10 k11 k12 k13 m : Nat) : SumF [k0, k1, k2, k3, k4, k5, k6, k7, k8, k9, k10, k11, k12, k13] m := ⟨by kernel_rfl, by kernel_rfl, by kernel_rfl, by kernel_rfl, by kernel_rfl⟩
theorem usum_f15 (k0 k1 k2 k3 k4 k5 k6 k7 k8 k9 k10 k11 k12 k13 k14 m : Nat) : SumF [k0, k1, k2, k3, k4, k5, k6, k7, k8, k9, k10, k11, k12, k13, k14] m := ⟨by kernel_rfl, by kernel_rfl, by kernel_rfl, by kernel_rfl, by kernel_rfl⟩
theorem usum_f16 (k0 k1 k2 k3 k4 k5 k6 k7 k8 k9 k10 k11 k12 k13 k14 k15 m : Nat) : SumF [k0, k1, k2, k3, k4, k5, k6, k7, k8, k9, k10, k11, k12, k13, k14, k15] m := ⟨by kernel_rfl, by kernel_rfl, by kernel_rfl, by kernel_rfl, by kernel_rfl⟩
theorem usum_f17 (k0 k1 k2 k3 k4 k5 k6 k7 k8 k9 k10 k11 k12 k13 k14 k15 k16 m : Nat) : SumF [k0, k1, k2, k3, k4, k5, k6, k7, k8, k9, k10, k11, k12, k13, k14, k15, k16] m := ⟨by kernel_rfl, by kernel_rfl, by kernel_rfl, by kernel_rfl, by kernel_rfl⟩
theorem usum_f18 (k0 k1 k2 k3 k4 k5 k6 k7 k8 k9 k10 k11 k12 k13 k14 k15 k16 k17 m : Nat) : SumF [k0, k1, k2, k3, k4, k5, k6, k7, k8, k9, k10, k11, k12, k13, k14, k15, k16, k17] m := ⟨by kernel_rfl, by kernel_rfl, by kernel_rfl, by kernel_rfl, by kernel_rfl⟩
theorem usum_f19 (k0 k1 k2 k3 k4 k5 k6 k7 k8 k9 k10 k11 k12 k13 k14 k15 k16 k17 k18 m : Nat) : SumF [k0, k1, k2, k3, k4, k5, k6, k7, k8, k9, k10, k11, k12, k13, k14, k15, k16, k17, k18] m := ⟨by kernel_rfl, by kernel_rfl, by kernel_rfl, by kernel_rfl, by kernel_rfl⟩
theorem usum_f20 (k0 k1 k2 k3 k4 k5 k6 k7 k8 k9 k10 k11 k12 k13 k14 k15 k16 k17 k18 k19 m : Nat) : SumF [k0, k1, k2, k3, k4, k5, k6, k7, k8, k9, k10, k11, k12, k13, k14, k15, k16, k17, k18, k19] m := ⟨by kernel_rfl, by kernel_rfl, by kernel_rfl, by kernel_rfl, by kernel_rfl⟩
set_option maxRecDepth 100000 in
theorem usum_fs : ∀ (ks : List Nat) (m : Nat), ks.length ≤ 20 → SumF ks m
  | [], m, _ => usum_f0 m
  | [k0], m, _ => usum_f1 k0 m
  | [k0, k1], m, _ => usum_f2 k0 k1 m
  | [k0, k1, k2], m, _ => usum_f3 k0 k1 k2 m
  | [k0, k1, k2, k3], m, _ => usum_f4 k0 k1 k2 k3 m
  | [k0, k1, k2, k3, k4], m, _ => usum_f5 k0 k1 k2 k3 k4 m
  | [k0, k1, k2, k3, k4, k5], m, _ => usum_f6 k0 k1 k2 k3 k4 k5 m
  | [k0, k1, k2, k3, k4, k5, k6], m, _ => usum_f7 k0 k1 k2 k3 k4 k5 k6 m
  | [k0, k1, k2, k3, k4, k5, k6, k7], m, _ => usum_f8 k0 k1 k2 k3 k4 k5 k6 k7 m
  | [k0, k1, k2, k3, k4, k5, k6, k7, k8], m, _ => usum_f9 k0 k1 k2 k3 k4 k5 k6 k7 k8 m
  | [k0, k1, k2, k3, k4, k5, k6, k7, k8, k9], m, _ => usum_f10 k0 k1 k2 k3 k4 k5 k6 k7 k8 k9 m
  | [k0, k1, k2, k3, k4, k5, k6, k7, k8, k9, k10], m, _ => usum_f11 k0 k1 k2 k3 k4 k5 k6 k7 k8 k9 k10 m
  | [k0, k1, k2, k3, k4, k5, k6, k7, k8, k9, k10, k11], m, _ => usum_f12 k0 k1 k2 k3 k4 k5 k6 k7 k8 k9 k10 k11 m
  | [k0, k1, k2, k3, k4, k5, k6, k7, k8, k9, k10, k11, k12], m, _ => usum_f13 k0 k1 k2 k3 k4 k5 k6 k7 k8 k9 k10 k11 k12 m
  | [k0, k1, k2, k3, k4, k5, k6, k7, k8, k9, k10, k11, k12, k13], m, _ => usum_f14 k0 k1 k2 k3 k4 k5 k6 k7 k8 k9 k10 k11 k12 k13 m
  | [k0, k1, k2, k3, k4, k5, k6, k7, k8, k9, k10, k11, k12, k13, k14], m, _ => usum_f15 k0 k1 k2 k3 k4 k5 k6 k7 k8 k9 k10 k11 k12 k13 k14 m
  | [k0, k1, k2, k3, k4, k5, k6, k7, k8, k9, k10, k11, k12, k13, k14, k15], m, _ => usum_f16 k0 k1 k2 k3 k4 k5 k6 k7 k8 k9 k10 k11 k12 k13 k14 k15 m
  | [k0, k1, k2, k3, k4, k5, k6, k7, k8, k9, k10, k11, k12, k13, k14, k15, k16], m, _ => usum_f17 k0 k1 k2 k3 k4 k5 k6 k7 k8 k9 k10 k11 k12 k13 k14 k15 k16 m
  | [k0, k1, k2, k3, k4, k5, k6, k7, k8, k9, k10, k11, k12, k13, k14, k15, k16, k17], m, _ => usum_f18 k0 k1 k2 k3 k4 k5 k6 k7 k8 k9 k10 k11 k12 k13 k14 k15 k16 k17 m
  | [k0, k1, k2, k3, k4, k5, k6, k7, k8, k9, k10, k11, k12, k13, k14, k15, k16, k17, k18], m, _ => usum_f19 k0 k1 k2 k3 k4 k5 k6 k7 k8 k9 k10 k11 k12 k13 k14 k15 k16 k17 k18 m
  | [k0, k1, k2, k3, k4, k5, k6, k7, k8, k9, k10, k11, k12, k13, k14, k15, k16, k17, k18, k19], m, _ => usum_f20 k0 k1 k2 k3 k4 k5 k6 k7 k8 k9 k10 k11 k12 k13 k14 k15 k16 k17 k18 k19 m
  | _ :: _ :: _ :: _ :: _ :: _ :: _ :: _ :: _ :: _ :: _ :: _ :: _ :: _ :: _ :: _ :: _ :: _ :: _ :: _ :: _ :: l, m, h => absurd h (Nat.not_le.2 (Nat.le_add_left 21 l.length))
theorem usum_imm (k : Nat) (hk : k ≤ 32767) : goodI ⟨10, 9, 0, 0, (k : Int)⟩ = true := by
  have h : fits16 (k : Int) = true := by unfold fits16; simp; omega
  simp [goodI, okO, regI, hasA, hasB, hasC, hasI, numI, h]
theorem usum_jmp (k : Nat) (hk : k ≤ 4096) : goodI ⟨17, 0, 0, 0, (k : Int)⟩ = true := by
  have h : (k : Int) ≤ 4096 := by omega
  simp [goodI, okO, regI, hasA, hasB, hasC, hasI, numI, h]
theorem usum_good (ks : List Nat) (m : Nat) (hk : ∀ k ∈ ks, k ≤ 32767) (hl : ks.length ≤ 20) (hm : m ≤ 32767) : ∀ i ∈ usumC0 ks m, goodI i = true := by
  intro i hi
  unfold usumC0 at hi
  rcases List.mem_append.1 hi with hi | hi
  · rcases List.mem_append.1 hi with hi | hi
    · have h : ∀ i ∈ usumAC0, goodI i = true := by decide
      exact h i hi
    · unfold usumPC at hi
      obtain ⟨k, hk2, hi⟩ := List.mem_flatMap.1 hi
      simp only [List.mem_cons, List.not_mem_nil, or_false] at hi
      rcases hi with rfl | rfl
      · exact usum_imm k (hk k hk2)
      · rfl
  · unfold usumZC at hi
    simp only [List.mem_cons, List.not_mem_nil, or_false] at hi
    rcases hi with rfl | rfl | rfl | rfl | rfl | rfl | rfl | rfl | rfl | rfl | rfl | rfl | rfl | rfl | rfl | rfl | rfl | rfl | rfl
    all_goals first | rfl | exact usum_imm m hm | exact usum_jmp _ (by omega)
theorem usumC0_len (ks : List Nat) (m : Nat) (hl : ks.length ≤ 20) : (usumC0 ks m).length ≤ 4096 := by
  have hpl : ∀ ks : List Nat, (usumPC ks).length = 2 * ks.length := fun ks => by
    unfold usumPC
    induction ks with
    | nil => rfl
    | cons k ks ih => rw [List.flatMap_cons, List.length_append, ih]; simp; omega
  unfold usumC0
  rw [List.length_append, List.length_append, hpl]
  simp only [usumAC0, usumZC, List.length_cons, List.length_nil]
  omega
theorem usum_fact (ks : List Nat) (m : Nat) (hk : ∀ k ∈ ks, k ≤ 32767) (hl : ks.length ≤ 20) (hm : m ≤ 32767) : factB (usumT ks m) 10 (usumC ks m) 2 = true := by
  obtain ⟨h1, h2, h3, h4, h7⟩ := usum_fs ks m hl
  have hS := s0_sum ks m hk hm
  have hL := usumC0_len ks m hl
  have hG := usum_good ks m hk hl hm
  have hq : mProgram ((usumK ks m).length + 1) (cs0 (usumK ks m) 0) = usumQ ks m := rfl
  generalize usumQ ks m = q at *
  have h5 := (comp_toks hS hq h1 (by rw [h2]; exact hL)).2.2
  have h6 : compO (usumT ks m) = obQ q := by unfold compO; rw [h5]; rfl
  have hgo : goodO (obOf (obQ q) ax0) = true := goodR_O h3 (fun i hi => hG i (by rw [← h2]; exact hi))
  have h8 : link1 (obQ q) 10 = (usumC ks m, 2, 0) := by
    rw [linkR_eq hgo (by decide) (by decide), h4]
  unfold factB
  rw [h6, h8, h7, h5]
  simp
end Go.Proofs.YteddjcpaeoceeaaGreatDoor.Cm
namespace Go.Proofs.YteddjcpaeoceeaaGreatDoor.Cm
open Go
set_option linter.unusedVariables false
set_option maxRecDepth 100000
set_option linter.unusedSimpArgs false
def usumS (pc r4 r8 r9 i n : Int) (O : List Int) : MS := ⟨[0, 0, 0, 0, r4, 0, 0, 0, r8, r9, 0, 0, 0, 0, 0, 0, 0, 0, 0, 0, 0, 0, 0, 0, 0, 0, 0, 0, 0, 10, 0, 0], [i, n, 0, 0, 0, 0, 0, 0, 0, 0], pc, [], O⟩
theorem usum_ms : ms0 10 [] = ⟨[0, 0, 0, 0, 0, 0, 0, 0, 0, 0, 0, 0, 0, 0, 0, 0, 0, 0, 0, 0, 0, 0, 0, 0, 0, 0, 0, 0, 0, 0, 0, 0], [0, 0, 0, 0, 0, 0, 0, 0, 0, 0], 0, [], []⟩ := rfl
theorem usum_start (ks : List Nat) (m : Nat) : Goes (usumC ks m) 3 (ms0 10 []) (usumS 3 0 0 0 0 0 []) := by
  have w10 : w32 10 = 10 := w32_id (by decide)
  rw [usum_ms]
  unfold usumS
  iterate 3 (refine Goes.more (goes1 rfl rfl (by first | rfl | assumption) (by simp [stepI, actQ, sysQ, loadQ, reckonQ, reckQ, nextQ, rgQ, setQ, w32_w32, w32_tru, truQ_t, truQ_f, w32_0, w32_1, List.getD, w10]; try rfl)) ?_)
  exact Goes.rf _ _
theorem usum_add {C : List In} {p k : Nat} {a r9 : Int} (h1 : C[p]? = some ⟨10, 9, 0, 0, (k : Int)⟩) (h2 : C[p + 1]? = some ⟨1, 8, 8, 9, 0⟩) (hk : k ≤ 32767) (ha : 0 ≤ a) (ha2 : a ≤ 1000000) : Goes C 2 (usumS (p : Int) 0 a r9 0 0 []) (usumS (((p + 2 : Nat)) : Int) 0 (a + (k : Int)) (k : Int) 0 0 []) := by
  have w1 : w32 (k : Int) = (k : Int) := w32_id (by omega)
  have w2 : w32 a = a := w32_id (by omega)
  have w3 : w32 (a + (k : Int)) = a + (k : Int) := w32_id (by omega)
  have hg := usum_imm k hk
  rw [show (((p + 2 : Nat)) : Int) = (p : Int) + 2 from rfl]
  unfold usumS
  refine Goes.more (goes1 (decide_eq_true (by omega)) h1 (by first | rfl | assumption) (by simp [stepI, actQ, sysQ, loadQ, reckonQ, reckQ, nextQ, rgQ, setQ, w32_w32, w32_tru, truQ_t, truQ_f, w32_0, w32_1, List.getD, Int.add_assoc, w1, w2, w3]; try rfl)) ?_
  refine Goes.more (goes1 (decide_eq_true (by omega)) h2 (by first | rfl | assumption) (by simp [stepI, actQ, sysQ, loadQ, reckonQ, reckQ, nextQ, rgQ, setQ, w32_w32, w32_tru, truQ_t, truQ_f, w32_0, w32_1, List.getD, Int.add_assoc, w1, w2, w3]; try rfl)) ?_
  exact Goes.rf _ _
theorem usum_adds (Z : List In) : ∀ (ks : List Nat) (A : List In) (a r9 : Int), (∀ k ∈ ks, k ≤ 32767) → 0 ≤ a → a + 32767 * ks.length ≤ 1000000 → ∃ b, Goes (A ++ usumPC ks ++ Z) (2 * ks.length) (usumS (A.length : Int) 0 a r9 0 0 []) (usumS (((A.length + 2 * ks.length : Nat)) : Int) 0 (a + (ks.sum : Nat)) b 0 0 [])
  | [], A, a, r9, _, _, _ => ⟨r9, by
    rw [show a + (([] : List Nat).sum : Nat) = a by simp]; exact Goes.rf _ _⟩
  | k :: ks, A, a, r9, hk, ha, hb => by
    have hk1 := hk k (by simp)
    simp only [List.length_cons] at hb
    obtain ⟨b, ih⟩ := usum_adds Z ks (A ++ [⟨10, 9, 0, 0, (k : Int)⟩, ⟨1, 8, 8, 9, 0⟩]) (a + (k : Int)) (k : Int) (fun q hq => hk q (by simp [hq])) (by omega) (by omega)
    have e : A ++ usumPC (k :: ks) ++ Z = A ++ [⟨10, 9, 0, 0, (k : Int)⟩, ⟨1, 8, 8, 9, 0⟩] ++ usumPC ks ++ Z := by
      unfold usumPC; simp
    rw [← e] at ih
    have g1 : (A ++ usumPC (k :: ks) ++ Z)[A.length]? = some ⟨10, 9, 0, 0, (k : Int)⟩ := by
      rw [e, List.append_assoc, List.append_assoc, List.getElem?_append_right (Nat.le_refl _), Nat.sub_self]; rfl
    have g2 : (A ++ usumPC (k :: ks) ++ Z)[A.length + 1]? = some ⟨1, 8, 8, 9, 0⟩ := by
      rw [e, List.append_assoc, List.append_assoc, List.getElem?_append_right (by omega), show A.length + 1 - A.length = 1 by omega]; rfl
    have h1 := usum_add (r9 := r9) g1 g2 hk1 ha (by omega)
    have el : (A ++ [(⟨10, 9, 0, 0, (k : Int)⟩ : In), ⟨1, 8, 8, 9, 0⟩]).length = A.length + 2 := by simp
    rw [el] at ih
    rw [show (a + (k : Int) + ((ks.sum : Nat) : Int)) = a + (((k :: ks).sum : Nat) : Int) by simp; omega, show A.length + 2 + 2 * ks.length = A.length + 2 * (k :: ks).length by simp; omega] at ih
    exact ⟨b, h1.tr ih (by simp; omega)⟩
def tri : Nat → Nat
  | 0 => 0
  | i + 1 => tri i + (i + 1)
theorem tri_two : ∀ m, 2 * tri m = m * (m + 1)
  | 0 => rfl
  | m + 1 => by rw [tri, Nat.mul_add, tri_two m, ← Nat.add_mul]; rw [Nat.mul_comm]
theorem tri_le : ∀ i m, i ≤ m → m ≤ 100 → tri i ≤ i * 101
  | 0, m, _, _ => by simp [tri]
  | i + 1, m, h, h2 => by have := tri_le i m (by omega) h2; rw [tri]; omega
/-- The rest of the code lies from e on. -/
def SumAt (C : List In) (e m : Nat) : Prop := ∀ j, j < 19 → C[e + j]? = (usumZC ((e : Int) + 2) m)[j]?
theorem usum_mid {C : List In} {e m : Nat} (hZ : SumAt C e m) (s r9 : Int) (hs : 0 ≤ s) (hs2 : s ≤ 1000000) : Goes C 2 (usumS (e : Int) 0 s r9 0 0 []) (usumS ((e : Int) + 2) s s r9 0 0 [s]) := by
  have w1 : w32 s = s := w32_id (by omega)
  unfold usumS
  refine Goes.more (goes1 (decide_eq_true (by omega)) ((hZ 0 (by decide)).trans rfl) (by first | rfl | assumption) (by simp [stepI, actQ, sysQ, loadQ, reckonQ, reckQ, nextQ, rgQ, setQ, w32_w32, w32_tru, truQ_t, truQ_f, w32_0, w32_1, List.getD, Int.add_assoc, w1]; try rfl)) ?_
  refine Goes.more (goes1 (decide_eq_true (by omega)) ((hZ 1 (by decide)).trans rfl) (by first | rfl | assumption) (by simp [stepI, actQ, sysQ, loadQ, reckonQ, reckQ, nextQ, rgQ, setQ, w32_w32, w32_tru, truQ_t, truQ_f, w32_0, w32_1, List.getD, Int.add_assoc, w1]; try rfl)) ?_
  exact Goes.rf _ _
set_option maxHeartbeats 1000000 in
theorem usum_round {C : List In} {e m : Nat} (hZ : SumAt C e m) (r4 r8 r9 : Int) (i : Nat) (O : List Int) (hi : i < m) (hm : m ≤ 100) (he : e ≤ 4000) : ∃ a b, Goes C 13 (usumS ((e : Int) + 2) r4 r8 r9 (i : Int) (tri i : Int) O) (usumS ((e : Int) + 2) r4 a b ((i + 1 : Nat) : Int) (tri (i + 1) : Int) O) := by
  have ht := tri_le i m (by omega) hm
  have h0 : (i : Int) < (m : Int) := by omega
  have w1 : w32 (i : Int) = (i : Int) := w32_id (by omega)
  have w2 : w32 (m : Int) = (m : Int) := w32_id (by omega)
  have w3 : w32 ((i : Int) + 1) = (i : Int) + 1 := w32_id (by omega)
  have w4 : w32 (tri i : Int) = (tri i : Int) := w32_id (by omega)
  have w5 : w32 ((tri i : Int) + ((i : Int) + 1)) = (tri i : Int) + ((i : Int) + 1) := w32_id (by omega)
  have hg := usum_imm m (by omega)
  have hg2 : goodI ⟨17, 0, 0, 0, (e : Int) + 2⟩ = true := usum_jmp (e + 2) (by omega)
  rw [show ((i + 1 : Nat) : Int) = (i : Int) + 1 from rfl, show ((tri (i + 1) : Nat) : Int) = (tri i : Int) + ((i : Int) + 1) from rfl]
  unfold usumS
  refine ⟨?a1, ?b1, ?c1⟩
  case c1 =>
    refine Goes.more (goes1 (decide_eq_true (by omega)) ((hZ 2 (by decide)).trans rfl) (by first | rfl | assumption) (by simp [stepI, actQ, sysQ, loadQ, reckonQ, reckQ, nextQ, rgQ, setQ, w32_w32, w32_tru, truQ_t, truQ_f, w32_0, w32_1, List.getD, Int.add_assoc, h0, w1, w2, w3, w4, w5]; try rfl)) ?_
    refine Goes.more (goes1 (decide_eq_true (by omega)) ((hZ 3 (by decide)).trans rfl) (by first | rfl | assumption) (by simp [stepI, actQ, sysQ, loadQ, reckonQ, reckQ, nextQ, rgQ, setQ, w32_w32, w32_tru, truQ_t, truQ_f, w32_0, w32_1, List.getD, Int.add_assoc, h0, w1, w2, w3, w4, w5]; try rfl)) ?_
    refine Goes.more (goes1 (decide_eq_true (by omega)) ((hZ 4 (by decide)).trans rfl) (by first | rfl | assumption) (by simp [stepI, actQ, sysQ, loadQ, reckonQ, reckQ, nextQ, rgQ, setQ, w32_w32, w32_tru, truQ_t, truQ_f, w32_0, w32_1, List.getD, Int.add_assoc, h0, w1, w2, w3, w4, w5]; try rfl)) ?_
    refine Goes.more (goes1 (decide_eq_true (by omega)) ((hZ 5 (by decide)).trans rfl) (by first | rfl | assumption) (by simp [stepI, actQ, sysQ, loadQ, reckonQ, reckQ, nextQ, rgQ, setQ, w32_w32, w32_tru, truQ_t, truQ_f, w32_0, w32_1, List.getD, Int.add_assoc, h0, w1, w2, w3, w4, w5]; try rfl)) ?_
    refine Goes.more (goes1 (decide_eq_true (by omega)) ((hZ 6 (by decide)).trans rfl) (by first | rfl | assumption) (by simp [stepI, actQ, sysQ, loadQ, reckonQ, reckQ, nextQ, rgQ, setQ, w32_w32, w32_tru, truQ_t, truQ_f, w32_0, w32_1, List.getD, Int.add_assoc, h0, w1, w2, w3, w4, w5]; try rfl)) ?_
    refine Goes.more (goes1 (decide_eq_true (by omega)) ((hZ 7 (by decide)).trans rfl) (by first | rfl | assumption) (by simp [stepI, actQ, sysQ, loadQ, reckonQ, reckQ, nextQ, rgQ, setQ, w32_w32, w32_tru, truQ_t, truQ_f, w32_0, w32_1, List.getD, Int.add_assoc, h0, w1, w2, w3, w4, w5]; try rfl)) ?_
    refine Goes.more (goes1 (decide_eq_true (by omega)) ((hZ 8 (by decide)).trans rfl) (by first | rfl | assumption) (by simp [stepI, actQ, sysQ, loadQ, reckonQ, reckQ, nextQ, rgQ, setQ, w32_w32, w32_tru, truQ_t, truQ_f, w32_0, w32_1, List.getD, Int.add_assoc, h0, w1, w2, w3, w4, w5]; try rfl)) ?_
    refine Goes.more (goes1 (decide_eq_true (by omega)) ((hZ 9 (by decide)).trans rfl) (by first | rfl | assumption) (by simp [stepI, actQ, sysQ, loadQ, reckonQ, reckQ, nextQ, rgQ, setQ, w32_w32, w32_tru, truQ_t, truQ_f, w32_0, w32_1, List.getD, Int.add_assoc, h0, w1, w2, w3, w4, w5]; try rfl)) ?_
    refine Goes.more (goes1 (decide_eq_true (by omega)) ((hZ 10 (by decide)).trans rfl) (by first | rfl | assumption) (by simp [stepI, actQ, sysQ, loadQ, reckonQ, reckQ, nextQ, rgQ, setQ, w32_w32, w32_tru, truQ_t, truQ_f, w32_0, w32_1, List.getD, Int.add_assoc, h0, w1, w2, w3, w4, w5]; try rfl)) ?_
    refine Goes.more (goes1 (decide_eq_true (by omega)) ((hZ 11 (by decide)).trans rfl) (by first | rfl | assumption) (by simp [stepI, actQ, sysQ, loadQ, reckonQ, reckQ, nextQ, rgQ, setQ, w32_w32, w32_tru, truQ_t, truQ_f, w32_0, w32_1, List.getD, Int.add_assoc, h0, w1, w2, w3, w4, w5]; try rfl)) ?_
    refine Goes.more (goes1 (decide_eq_true (by omega)) ((hZ 12 (by decide)).trans rfl) (by first | rfl | assumption) (by simp [stepI, actQ, sysQ, loadQ, reckonQ, reckQ, nextQ, rgQ, setQ, w32_w32, w32_tru, truQ_t, truQ_f, w32_0, w32_1, List.getD, Int.add_assoc, h0, w1, w2, w3, w4, w5]; try rfl)) ?_
    refine Goes.more (goes1 (decide_eq_true (by omega)) ((hZ 13 (by decide)).trans rfl) (by first | rfl | assumption) (by simp [stepI, actQ, sysQ, loadQ, reckonQ, reckQ, nextQ, rgQ, setQ, w32_w32, w32_tru, truQ_t, truQ_f, w32_0, w32_1, List.getD, Int.add_assoc, h0, w1, w2, w3, w4, w5]; try rfl)) ?_
    refine Goes.more (goes1 (decide_eq_true (by omega)) ((hZ 14 (by decide)).trans rfl) (by first | rfl | assumption) (by simp [stepI, actQ, sysQ, loadQ, reckonQ, reckQ, nextQ, rgQ, setQ, w32_w32, w32_tru, truQ_t, truQ_f, w32_0, w32_1, List.getD, Int.add_assoc, h0, w1, w2, w3, w4, w5]; try rfl)) ?_
    exact Goes.rf _ _
theorem usum_loop {C : List In} {e m : Nat} (hZ : SumAt C e m) (hm : m ≤ 100) (he : e ≤ 4000) (r4 : Int) (O : List Int) : ∀ (d i : Nat) (r8 r9 : Int), i + d = m → ∃ a b, Goes C (13 * d) (usumS ((e : Int) + 2) r4 r8 r9 (i : Int) (tri i : Int) O) (usumS ((e : Int) + 2) r4 a b (m : Int) (tri m : Int) O)
  | 0, i, r8, r9, h => by
    obtain rfl : i = m := by omega
    exact ⟨r8, r9, Goes.rf _ _⟩
  | d + 1, i, r8, r9, h => by
    obtain ⟨a, b, h1⟩ := usum_round hZ r4 r8 r9 i O (by omega) hm he
    obtain ⟨a2, b2, h2⟩ := usum_loop hZ hm he r4 O d (i + 1) a b (by omega)
    exact ⟨a2, b2, h1.tr h2 (by omega)⟩
theorem usum_end {C : List In} {e m : Nat} (hZ : SumAt C e m) (r4 r8 r9 s : Int) (hm : m ≤ 100) : ∃ q, Goes C 7 (usumS ((e : Int) + 2) r4 r8 r9 (m : Int) (tri m : Int) [s]) q ∧ Stops C q 1 [s, (tri m : Int)] := by
  have ht := tri_le m m (by omega) hm
  have h0 : ¬ (m : Int) < (m : Int) := by omega
  have w2 : w32 (m : Int) = (m : Int) := w32_id (by omega)
  have w4 : w32 (tri m : Int) = (tri m : Int) := w32_id (by omega)
  have hg := usum_imm m (by omega)
  unfold usumS
  refine ⟨?q1, ?a1, ?b1⟩
  case a1 =>
    refine Goes.more (goes1 (decide_eq_true (by omega)) ((hZ 2 (by decide)).trans rfl) (by first | rfl | assumption) (by simp [stepI, actQ, sysQ, loadQ, reckonQ, reckQ, nextQ, rgQ, setQ, w32_w32, w32_tru, truQ_t, truQ_f, w32_0, w32_1, List.getD, Int.add_assoc, h0, w2, w4]; try rfl)) ?_
    refine Goes.more (goes1 (decide_eq_true (by omega)) ((hZ 3 (by decide)).trans rfl) (by first | rfl | assumption) (by simp [stepI, actQ, sysQ, loadQ, reckonQ, reckQ, nextQ, rgQ, setQ, w32_w32, w32_tru, truQ_t, truQ_f, w32_0, w32_1, List.getD, Int.add_assoc, h0, w2, w4]; try rfl)) ?_
    refine Goes.more (goes1 (decide_eq_true (by omega)) ((hZ 4 (by decide)).trans rfl) (by first | rfl | assumption) (by simp [stepI, actQ, sysQ, loadQ, reckonQ, reckQ, nextQ, rgQ, setQ, w32_w32, w32_tru, truQ_t, truQ_f, w32_0, w32_1, List.getD, Int.add_assoc, h0, w2, w4]; try rfl)) ?_
    refine Goes.more (goes1 (decide_eq_true (by omega)) ((hZ 5 (by decide)).trans rfl) (by first | rfl | assumption) (by simp [stepI, actQ, sysQ, loadQ, reckonQ, reckQ, nextQ, rgQ, setQ, w32_w32, w32_tru, truQ_t, truQ_f, w32_0, w32_1, List.getD, Int.add_assoc, h0, w2, w4]; try rfl)) ?_
    refine Goes.more (goes1 (decide_eq_true (by omega)) ((hZ 15 (by decide)).trans rfl) (by first | rfl | assumption) (by simp [stepI, actQ, sysQ, loadQ, reckonQ, reckQ, nextQ, rgQ, setQ, w32_w32, w32_tru, truQ_t, truQ_f, w32_0, w32_1, List.getD, Int.add_assoc, h0, w2, w4]; try rfl)) ?_
    refine Goes.more (goes1 (decide_eq_true (by omega)) ((hZ 16 (by decide)).trans rfl) (by first | rfl | assumption) (by simp [stepI, actQ, sysQ, loadQ, reckonQ, reckQ, nextQ, rgQ, setQ, w32_w32, w32_tru, truQ_t, truQ_f, w32_0, w32_1, List.getD, Int.add_assoc, h0, w2, w4]; try rfl)) ?_
    refine Goes.more (goes1 (decide_eq_true (by omega)) ((hZ 17 (by decide)).trans rfl) (by first | rfl | assumption) (by simp [stepI, actQ, sysQ, loadQ, reckonQ, reckQ, nextQ, rgQ, setQ, w32_w32, w32_tru, truQ_t, truQ_f, w32_0, w32_1, List.getD, Int.add_assoc, h0, w2, w4]; try rfl)) ?_
    exact Goes.rf _ _
  exact fun f hf => ⟨_, stop1 (decide_eq_true (by omega)) ((hZ 18 (by decide)).trans rfl) rfl (by simp [stepI, actQ, sysQ, loadQ, reckonQ, reckQ, nextQ, rgQ, setQ, w32_w32, w32_tru, truQ_t, truQ_f, w32_0, w32_1, List.getD]; try rfl) (by decide) hf, rfl⟩
theorem usum_run (ks : List Nat) (m : Nat) (hk : ∀ k ∈ ks, k ≤ 32767) (hl : ks.length ≤ 20) (hm : m ≤ 100) : ∃ n u, seqQ (usumC ks m) 10 [] 20000 = (1, n, [((ks.sum : Nat) : Int), (tri m : Int)], u) := by
  have hpl : ∀ ks : List Nat, (usumPC ks).length = 2 * ks.length := fun ks => by
    unfold usumPC
    induction ks with
    | nil => rfl
    | cons k ks ih => rw [List.flatMap_cons, List.length_append, ih]; simp; omega
  have hal : usumAC.length = 3 := rfl
  have hs : ∀ ks : List Nat, (∀ k ∈ ks, k ≤ 32767) → ks.sum ≤ 32767 * ks.length := fun ks => by
    induction ks with
    | nil => intro _; simp
    | cons k ks ih => intro h; have h1 := ih (fun q hq => h q (by simp [hq])); have h2 := h k (by simp); simp; omega
  have hs1 := hs ks hk
  have hZ : SumAt (usumC ks m) (3 + 2 * ks.length) m := fun j hj => by
    unfold usumC
    rw [List.getElem?_append_right (by rw [List.length_append, hal, hpl]; omega), List.length_append, hal, hpl, show 3 + 2 * ks.length + j - (3 + 2 * ks.length) = j by omega, show ((2 * ks.length + 5 : Nat) : Int) = ((3 + 2 * ks.length : Nat) : Int) + 2 by omega]
  obtain ⟨b, h1⟩ := usum_adds (usumZC ((2 * ks.length + 5 : Nat) : Int) m) ks usumAC 0 0 hk (by omega) (by omega)
  rw [hal, Int.zero_add] at h1
  have h2 := usum_mid hZ ((ks.sum : Nat) : Int) b (by omega) (by omega)
  obtain ⟨a3, b3, h3⟩ := usum_loop hZ hm (by omega) ((ks.sum : Nat) : Int) [((ks.sum : Nat) : Int)] m 0 ((ks.sum : Nat) : Int) b (by omega)
  obtain ⟨q, h4, h5⟩ := usum_end hZ ((ks.sum : Nat) : Int) a3 b3 ((ks.sum : Nat) : Int) hm
  have h6 := ((((usum_start ks m).tr h1 rfl).tr h2 rfl).tr h3 rfl).tr h4 rfl
  exact seq_ex (n := 10) (fuel := 20000) (by unfold usumC; rw [List.length_append, List.length_append, hpl, hal]; unfold usumZC; simp; omega) (by decide) h6 h5 (by omega)
end Go.Proofs.YteddjcpaeoceeaaGreatDoor.Cm
namespace Go.Proofs.YteddjcpaeoceeaaGreatDoor.Sc
open Go Go.Sx Go.Sx.Chunk
set_option linter.unusedVariables false
set_option maxRecDepth 100000
set_option linter.unusedSimpArgs false

theorem bs_app' (a b : List UInt8) : bs a ++ bs b = bs (a ++ b) := by
  rw [← bs_txt (bs a ++ bs b)]
  simp [txt, bs]
theorem bytC_dig (n : Nat) (v : Int) (hv : v = ((48 + n % 10 : Nat) : Int)) : [Value.int .u8 v] = bytC (bs [dig n]) ++ [] := by
  rw [hv]
  simp only [bytC, bs, List.map_cons, List.map_nil, List.append_nil, dig_nat]
theorem bs_one (n : Nat) : 1 = (bs [dig n]).size := rfl
set_option maxHeartbeats 1000000 in
theorem digitsC (n : Nat) (hn : n ≤ 1000000000) : FnC (α := Unit) Tryz.prog 18 [.int .i64 n] [] [] (fun _ => .string (bs (digL n))) (fun _ => []) (fun _ => True) := by
  refine fn_intro Tryz.func18 Tryz.ntmps18 rfl rfl rfl (fun w0 => ?_)
  try simp only [List.cons_append, List.nil_append, List.append_nil]
  have h1 : [Value.int .u8 (48 + (n : Int) % 10)] = bytC (bs [dig n]) ++ [] := bytC_dig n _ (by omega)
  have h2 := bs_one n
  refine rr ?_
  intro b _
  refine rr ?_
  refine w_sub [] rfl ?_
  refine w_loop (α := Nat × List UInt8) (fun x => [(0, .int .i64 (x.1 : Int)), (3, .string (bs x.2))]) (fun _ => []) (fun x => x.1 ≤ n ∧ x.2.length + x.1 ≤ n + 1 ∧ digL n = (if 10 ≤ x.1 then digL (x.1 / 10) else []) ++ x.2) (fun x => x.1) (n, [dig n]) ⟨rfl, rfl, trivial⟩ rfl ⟨Nat.le_refl _, by simp; omega, ?_⟩ ?_
  · dsimp only
    split
    · rename_i h; rw [digL_hi h]
    · rename_i h; rw [digL_lo (by omega)]; rfl
  rintro ⟨m, l⟩ ⟨hm, hl, hd⟩ K1 hK1
  dsimp only at hm hl hd ⊢
  by_cases h10 : 10 ≤ m
  · rw [if_pos h10] at hd
    have h1 : [Value.int .u8 (48 + (m : Int) / 10 % 10)] = bytC (bs [dig (m / 10)]) ++ [] := bytC_dig (m / 10) _ (by omega)
    have h2 := bs_one (m / 10)
    have h3 := bs_size l
    refine rr ?_
    intro b _
    refine rr ?_
    refine w_sub [] rfl ?_
    refine w_round hK1 (m / 10, dig (m / 10) :: l) ⟨by show m / 10 ≤ n; omega, by simp; omega, ?_⟩ (by show m / 10 < m; omega) rfl ⟨rfl, ?_, trivial⟩
    · show digL n = (if 10 ≤ m / 10 then digL (m / 10 / 10) else []) ++ dig (m / 10) :: l
      rw [hd]
      split
      · rename_i h; rw [digL_hi h]; simp
      · rename_i h; rw [digL_lo (by omega)]; rfl
    · show some (Value.string (bs [dig (m / 10)] ++ bs l)) = _
      rw [bs_app']; rfl
  · rw [if_neg h10, List.nil_append] at hd
    subst hd
    refine rr ?_
    exact we () [] trivial
end Go.Proofs.YteddjcpaeoceeaaGreatDoor.Sc
namespace Go.Proofs.YteddjcpaeoceeaaGreatDoor.Cm
open Go Go.Sx Go.Sx.Chunk
set_option linter.unusedVariables false
set_option maxRecDepth 100000
set_option linter.unusedSimpArgs false
def ksL (l : List Int) : List Nat := l.map fun z => (z % 32768).toNat
theorem ksL_snoc {l : List Int} {k : Nat} {z : Int} (h : l[k]? = some z) : ksL (l.take (k + 1)) = ksL (l.take k) ++ [(z % 32768).toNat] := by
  unfold ksL; rw [List.take_add_one, h]; simp
theorem ksL_le (l : List Int) : ∀ k ∈ ksL l, k ≤ 32767 := by
  unfold ksL; intro k hk; obtain ⟨z, _, rfl⟩ := List.mem_map.1 hk; omega
theorem ksL_len (l : List Int) : (ksL l).length = l.length := by unfold ksL; simp
theorem ksL_sum (l : List Int) : (ksL l).sum ≤ 32767 * l.length := by
  unfold ksL
  induction l with
  | nil => simp
  | cons z l ih => simp only [List.map_cons, List.sum_cons, List.length_cons]; omega
theorem usumP_snoc (ks : List Nat) (n : Nat) : usumP (ks ++ [n]) = usumP ks ++ (43 :: Sc.digL n) := by unfold usumP; simp
theorem usum_bs (P M Z : ByteArray) (l : List UInt8) (ks : List Nat) (m : Nat) (hP : P = Sc.bs (usumA ++ usumP ks)) (hM : M = Sc.bs usumM) (hZ : Z = Sc.bs usumZ) : P ++ (M ++ Sc.bs (Sc.digL m) ++ Z) = Sc.bs (usumT ks m) := by
  rw [hP, hM, hZ, Sc.bs_app', Sc.bs_app', Sc.bs_app']; rfl
theorem usum_bs1 (P A : ByteArray) (ks : List Nat) (n : Nat) (hP : P = Sc.bs (usumA ++ usumP ks)) (hA : A = Sc.bs [43]) : P ++ (A ++ Sc.bs (Sc.digL n)) = Sc.bs (usumA ++ usumP (ks ++ [n])) := by
  rw [hP, hA, Sc.bs_app', Sc.bs_app', usumP_snoc, List.append_assoc]; rfl
set_option maxHeartbeats 8000000 in
theorem usum_law (ao : Option Addr) (cap : Nat) (l : List Int) (hc : l.length ≤ cap) (hm : cap ≤ maxLen) (h : ∀ z ∈ l, inK .u16 z) (v : Int) (hv0 : inK .u8 v) : FnC (α := Unit) Tryz.prog 4 [.slice ao l.length cap, .int .u8 v] [] [rng ao (l.flatMap u16V), spaceV] (fun _ => .bool true) (fun _ => []) (fun _ => True) := by
  have haw := awakeC
  have hl : l.length ≤ maxLen := Nat.le_trans hc hm
  have hr : 0 ≤ v ∧ v ≤ 255 := by simpa [inK, IntKind.min, IntKind.max, IntKind.signed, IntKind.bits] using hv0
  obtain ⟨hr1, hr2⟩ := hr
  have hz : ∀ z ∈ l, 0 ≤ z ∧ z ≤ 65535 := fun z hz => by simpa [inK, IntKind.min, IntKind.max, IntKind.signed, IntKind.bits] using h z hz
  obtain ⟨m, hm1⟩ : ∃ m : Nat, v % 101 = (m : Int) := ⟨(v % 101).toNat, by omega⟩
  have hm100 : m ≤ 100 := by omega
  have hdm := Sc.digitsC m (by omega)
  have hLm := (Sc.digL_len m).2 (by omega)
  have hsm : (Sc.bs (Sc.digL m)).size ≤ 5 := by rw [Sc.bs_size]; exact hLm
  have hll : (l.flatMap u16V).length = l.length := by
    have h := flat_len (cells := u16V) (sz := 1) (fun _ => rfl) l
    omega
  refine fn_intro Tryz.func4 Tryz.ntmps4 rfl rfl rfl (fun w0 => ?_)
  try simp only [List.cons_append, List.nil_append, List.append_nil]
  refine rr ?_
  refine lo [0, 1] (fun z : Nat × ByteArray => [(5, .string z.2), (6, .int .i64 (((ksL (l.take z.1)).sum : Nat) : Int)), (7, .int .i64 (z.1 : Int))]) (fun z => []) (fun z => z.1 ≤ l.length ∧ z.1 ≤ 20 ∧ z.2 = Sc.bs (usumA ++ usumP (ksL (l.take z.1))) ∧ z.2.size ≤ 38 + 6 * z.1) (fun z => 20 - z.1) (0, Sc.bs usumA) ⟨Nat.zero_le _, Nat.zero_le _, by simp [ksL, usumP], by decide +kernel⟩ ?_
  rintro ⟨k, a⟩ ⟨hkl, hk, ha, hsz⟩ K1 hK1
  dsimp only at hkl hk ha hsz ⊢
  have hks := ksL_sum (l.take k)
  have htl : (l.take k).length = k := by rw [List.length_take]; omega
  rw [htl] at hks
  by_cases h20 : k < l.length ∧ k < 20
  · obtain ⟨hlt, hlt2⟩ := h20
    obtain ⟨z, he⟩ := some_at hlt
    have hzz := hz z (List.mem_of_getElem? he)
    have hget : (l.flatMap u16V)[(k : Int).toNat * 1]? = some (.int .u16 z) := by
      have h := flat_at (cells := u16V) (sz := 1) (fun _ => rfl) he (show 0 < 1 by decide)
      exact h
    have hsn := ksL_snoc he
    obtain ⟨n, hn⟩ : ∃ n : Nat, (z % 32768).toNat = n := ⟨_, rfl⟩
    have hnz : (n : Int) = z % 32768 := by omega
    rw [hn] at hsn
    have hd1 := Sc.digitsC n (by omega)
    rw [hnz] at hd1
    have hL1 := (Sc.digL_len n).2 (by omega)
    have hs1 : (Sc.bs (Sc.digL n)).size ≤ 5 := by rw [Sc.bs_size]; exact hL1
    refine w_use (fun w hw => (hw.pick 0 rfl).rng_some (by omega)) ?_
    rintro ⟨g1, rfl⟩
    refine rr ?_
    refine cl (hd1) ?_
    intro _ _
    try simp only [List.cons_append, List.nil_append, List.append_nil]
    refine rr ?_
    refine ro hK1 (k + 1, a ++ (⟨#[43]⟩ ++ Sc.bs (Sc.digL n))) ⟨by dsimp only; omega, by dsimp only; omega, ?_, ?_⟩ (hE := ?_)
    · dsimp only
      rw [hsn]
      exact usum_bs1 _ _ _ _ ha rfl
    · dsimp only
      rw [ByteArray.size_append, ByteArray.size_append, show (⟨#[43]⟩ : ByteArray).size = 1 from rfl]; omega
    · refine ⟨rfl, ?_, rfl, rfl, rfl, trivial⟩
      rw [hsn, List.sum_append, List.sum_singleton, Int.natCast_add, hnz]
      rfl
  · have hle := ksL_le (l.take k)
    have hlen : (ksL (l.take k)).length ≤ 20 := by rw [ksL_len, htl]; exact hk
    obtain ⟨st, u, hrun⟩ := usum_run (ksL (l.take k)) m hle hlen hm100
    have hfa := usum_fact (ksL (l.take k)) m hle hlen (by omega)
    have hTl : (usumT (ksL (l.take k)) m).length ≤ 1000000 := by
      have h1 := congrArg ByteArray.size ha
      rw [Sc.bs_size, List.length_append] at h1
      unfold usumT
      rw [List.length_append, List.length_append, List.length_append, List.length_append]
      simp only [usumM, usumZ, List.length_cons, List.length_nil]
      omega
    have h1 := fun s hs => compT hfa s hs hTl
    have h2 := fun c x => linkT hfa c x
    have h3 := fun ca cc => runC ca cc (usumC (ksL (l.take k)) m) 10 none 0 [] 20000 (by decide) (by simp)
    rw [hrun] at h3
    have hbs := fun M Z h1 h2 => usum_bs a M Z [] (ksL (l.take k)) m ha h1 h2
    have hcl : (usumC (ksL (l.take k)) m).length ≤ 1000 := by
      have hpl : ∀ ks : List Nat, (usumPC ks).length = 2 * ks.length := fun ks => by
        unfold usumPC
        induction ks with
        | nil => rfl
        | cons k ks ih => rw [List.flatMap_cons, List.length_append, ih]; simp; omega
      unfold usumC
      rw [List.length_append, List.length_append, hpl]
      simp only [usumAC, usumZC, List.length_cons, List.length_nil]
      omega
    have htr := tri_two m
    have htl2 := tri_le m m (Nat.le_refl _) hm100
    have htri : (m : Int) * ((m : Int) + 1) = 2 * (tri m : Int) := by
      have := congrArg (fun n : Nat => (n : Int)) htr
      simpa using this.symm
    generalize tri m = t at *
    generalize (ksL (l.take k)).sum = s at *
    generalize compO (usumT (ksL (l.take k)) m) = o at *
    generalize usumT (ksL (l.take k)) m = tx at *
    generalize usumC (ksL (l.take k)) m = code at *
    unfold linkV at h2
    unfold o6G o6H at h1
    unfold o6H o6V at h2
    unfold resG resH i64C at h3
    dsimp only at h1 h2 h3
    simp only [List.map_nil, List.map_cons, List.length_nil, List.length_cons, Nat.zero_add, Nat.reduceAdd] at h3
    clear hrun hfa
    have hcase : (k < l.length ∧ ¬ k < 20) ∨ ¬ k < l.length := by omega
    rcases hcase with ⟨hk1, hk2⟩ | hk1
    all_goals
      refine rr ?_
      rw [hm1]
      refine rr ?_
      refine cl (hdm) ?_
      intro _ _
      try simp only [List.cons_append, List.nil_append, List.append_nil]
      try simp only [List.append_eq, List.cons_append, List.nil_append]
      refine rr ?_
      refine cl (h1 _ (hbs _ _ (by kernel_rfl) (by kernel_rfl))) ?_
      intro x _
      try simp only [List.cons_append, List.nil_append, List.append_nil]
      refine rr ?_
      intro b1 _
      refine rr ?_
      intro b2 _
      refine rr ?_
      refine cl (h2 b2 x) ?_
      intro z _
      try simp only [List.cons_append, List.nil_append, List.append_nil]
      refine rr ?_
      intro b3 _
      refine rr ?_
      refine cl (h3 z.1 z.2) ?_
      intro y _
      try simp only [List.cons_append, List.nil_append, List.append_nil]
      refine rr ?_
      intro b5 _
      refine rr ?_
      refine cl (haw) ?_
      intro _ _
      try simp only [List.cons_append, List.nil_append, List.append_nil]
      refine rr ?_
      exact en () trivial
end Go.Proofs.YteddjcpaeoceeaaGreatDoor.Cm

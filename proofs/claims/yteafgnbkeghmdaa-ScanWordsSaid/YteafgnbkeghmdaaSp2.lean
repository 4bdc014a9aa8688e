/- Scanning, in plain words: what is ahead of a text, capitals, two texts. -/
import Derived.Test.YteafgnbkeghmdaaSl1
namespace Go.Proofs.Yteafgnbkeghmdaa
open Go Go.Sx Go.Sx.Chunk
set_option linter.unusedVariables false
set_option linter.unusedSimpArgs false

/-- One step: what is known of a text that is not empty. -/
inductive Step1 (p : Nat) (c : UInt8) (r : List UInt8) : Prop
  | blank (h : isBlank c = true) (he : scanD p (c :: r) = scanD (p + 1) r)
  | open' (h : isBlank c = false) (hc : c = 123) (k : Int) (hk : Lib.indexByte (c :: r) 125 = k) (hneg : k < 0) (he : scanD p (c :: r) = ([], p, 2))
  | comment (h : isBlank c = false) (hc : c = 123) (k : Nat) (hk : Lib.indexByte (c :: r) 125 = k) (hle : k + 1 ≤ (c :: r).length) (he : scanD p (c :: r) = scanD (p + k + 1) ((c :: r).drop (k + 1)))
  | bad (h : isBlank c = false) (hc : c ≠ 123) (hb : (tokR (c :: r)).2.2 ≠ 0) (he : scanD p (c :: r) = ([], p, (tokR (c :: r)).2.2))
  | tok (h : isBlank c = false) (hc : c ≠ 123) (hb : (tokR (c :: r)).2.2 = 0) (h1 : 1 ≤ (tokR (c :: r)).2.1) (h2 : (tokR (c :: r)).2.1 ≤ (c :: r).length) (he : scanD p (c :: r) = consT ((tokR (c :: r)).1, p) (scanD (p + (tokR (c :: r)).2.1) ((c :: r).drop (tokR (c :: r)).2.1)))
theorem step1 (p : Nat) (c : UInt8) (r : List UInt8) : Step1 p c r := by
  have h := scanD_cons p c r
  cases hb : isBlank c with
  | true => rw [hb, if_pos rfl] at h; exact .blank hb h
  | false =>
    rw [hb, if_neg (by simp)] at h
    by_cases hc : c = 123
    · rw [if_pos hc] at h
      by_cases hk : Lib.indexByte (c :: r) 125 < 0
      · rw [if_pos hk] at h; exact .open' hb hc _ rfl hk h
      · rw [if_neg hk] at h
        have := indexByte_lt (c :: r) 125
        exact .comment hb hc (Lib.indexByte (c :: r) 125).toNat (by omega) (by omega) h
    · rw [if_neg hc] at h
      by_cases ht : (tokR (c :: r)).2.2 ≠ 0
      · rw [if_pos ht] at h; exact .bad hb hc ht h
      · rw [if_neg ht] at h
        have ht' : (tokR (c :: r)).2.2 = 0 := by simpa using ht
        have := tokR_len ht'
        exact .tok hb hc ht' this.1 this.2 h
/-! ### Places further on -/
def shiftR (d : Nat) (r : ScanRes) : ScanRes := (r.1.map (fun t => (t.1, t.2 + d)), if r.2.2 = 0 then r.2.1 else r.2.1 + d, r.2.2)
theorem shift_cons (d : Nat) (t : Tk) (p : Nat) (r : ScanRes) : shiftR d (consT (t, p) r) = consT (t, p + d) (shiftR d r) := by
  unfold shiftR consT
  by_cases h : r.2.2 = 0 <;> simp [h]
theorem scanD_shift (d : Nat) : ∀ (n p : Nat) (l : List UInt8), l.length ≤ n → scanD (p + d) l = shiftR d (scanD p l)
  | n, p, [], _ => by simp [scanD_nil, shiftR]
  | 0, p, c :: r, h => by simp at h
  | n + 1, p, c :: r, h => by
    simp only [List.length_cons, Nat.add_le_add_iff_right] at h
    cases step1 p c r with
    | blank hb he =>
      rw [he, scanD_cons, hb, if_pos rfl, ← scanD_shift d n (p + 1) r h]
      congr 1; omega
    | open' hb hc k hk hneg he =>
      rw [he, scanD_cons, hb, if_neg (by simp), if_pos hc, hk, if_pos hneg]; rfl
    | comment hb hc k hk hle he =>
      rw [he, scanD_cons, hb, if_neg (by simp), if_pos hc, hk, if_neg (by omega), ← scanD_shift d n _ _ (by simp; omega)]
      rw [Int.toNat_natCast]
      congr 1; omega
    | bad hb hc ht he =>
      rw [he, scanD_cons, hb, if_neg (by simp), if_neg hc, if_pos ht]
      simp [shiftR, ht]
    | tok hb hc ht h1 h2 he =>
      rw [he, scanD_cons, hb, if_neg (by simp), if_neg hc, if_neg (by simpa using ht), shift_cons, ← scanD_shift d n _ _ (by simp; omega)]
      congr 2; omega
theorem skip_blanks : ∀ (bks l : List UInt8) (p : Nat), (∀ b ∈ bks, isBlank b = true) → scanD p (bks ++ l) = scanD (p + bks.length) l
  | [], l, p, _ => rfl
  | b :: bks, l, p, h => by
    rw [List.cons_append, scanD_cons, h b (by simp), if_pos rfl, skip_blanks bks l (p + 1) (fun c hc => h c (by simp [hc]))]
    congr 1; simp [Nat.add_comm, Nat.add_left_comm]
theorem idx_app {c : List UInt8} {l : List UInt8} {x : UInt8} (h : ∀ b ∈ c, b ≠ x) : Lib.indexByte (c ++ x :: l) x = c.length := by
  induction c with
  | nil => simp [Lib.indexByte]
  | cons b c ih =>
    have ih' := ih (fun d hd => h d (by simp [hd]))
    simp only [List.cons_append, Lib.indexByte]
    rw [if_neg (by simpa using h b (by simp)), ih', if_neg (by simp)]
    simp
theorem skip_comment (c l : List UInt8) (p : Nat) (h : ∀ b ∈ c, b ≠ 125) : scanD p (123 :: c ++ 125 :: l) = scanD (p + c.length + 2) l := by
  have hi : Lib.indexByte (123 :: (c ++ 125 :: l)) 125 = ((c.length + 1 : Nat) : Int) := by
    have := idx_app (c := 123 :: c) (l := l) (x := 125) (by intro b hb; rcases List.mem_cons.1 hb with rfl | hb; decide; exact h b hb)
    simpa using this
  rw [List.cons_append, scanD_cons, if_neg (by decide), if_pos rfl, hi, if_neg (by omega), Int.toNat_natCast]
  have hd : (123 :: (c ++ 125 :: l)).drop (c.length + 1 + 1) = l := by
    rw [List.drop_succ_cons, List.drop_append]
    simp
  rw [hd]
  congr 1
/-- Blanks and a comment ahead. -/
theorem scan_ahead (c bks l : List UInt8) (hc : ∀ b ∈ c, b ≠ 125) (hb : ∀ b ∈ bks, isBlank b = true) : scanD 0 (123 :: c ++ 125 :: (bks ++ l)) = shiftR (c.length + 2 + bks.length) (scanD 0 l) := by
  rw [skip_comment c (bks ++ l) 0 hc, skip_blanks bks l _ hb, ← scanD_shift _ _ 0 l (Nat.le_refl _)]
  congr 1; omega
/-! ### Where tokens stand -/
/-- A token at its place in a text. -/
def stands (s : List UInt8) (t : Tk × Nat) : Prop :=
  t.2 + max t.1.text.length 1 ≤ s.length ∧ 1 ≤ t.1.kind ∧ t.1.kind ≤ 3 ∧ (t.1.kind = 3 → (s.drop t.2).take t.1.text.length = t.1.text) ∧ (t.1.kind ≠ 2 → t.1.num = 0) ∧ (t.1.kind = 2 → t.1.text = [] ∧ 0 ≤ t.1.num ∧ t.1.num ≤ 32767)
def rising : Nat → List (Tk × Nat) → Prop
  | _, [] => True
  | p, t :: l => p ≤ t.2 ∧ rising (t.2 + 1) l
theorem rising_mono {l : List (Tk × Nat)} {p q : Nat} (h : rising p l) (hq : q ≤ p) : rising q l := by
  cases l with
  | nil => trivial
  | cons t l => exact ⟨Nat.le_trans hq h.1, h.2⟩
theorem numL_le : ∀ (l : List UInt8) (n : Int), n ≤ 32767 → numL l n ≤ 32767
  | [], n, h => h
  | b :: l, n, h => by
    simp only [numL]
    split
    · decide
    · exact numL_le l _ (by omega)
theorem tok_stands {s : List UInt8} {p : Nat} {c : UInt8} {r : List UInt8} (hs : s.drop p = c :: r) (ht : (tokR (c :: r)).2.2 = 0) : stands s ((tokR (c :: r)).1, p) := by
  have hlen : s.length = p + (c :: r).length := by
    have := congrArg List.length hs
    rw [List.length_drop] at this
    have : p < s.length := by simp at this; omega
    omega
  have hl := tokR_len ht
  unfold stands
  dsimp only
  rw [hs]
  simp only [tokR] at ht hl ⊢
  split
  · rename_i h1
    rw [if_pos h1] at ht hl
    split
    · rename_i h2; rw [if_pos h2] at ht; simp at ht
    · rename_i h2
      rw [if_neg h2] at hl
      dsimp only at hl ⊢
      rw [List.length_map, List.length_take]
      refine ⟨by omega, by decide, by decide, fun h => absurd h (by decide), fun _ => rfl, fun h => absurd h (by decide)⟩
  · rename_i h1
    rw [if_neg h1] at ht hl
    split
    · rename_i h2
      rw [if_pos h2] at ht hl
      split
      · rename_i h3; rw [if_pos h3] at ht; simp at ht
      · rename_i h3
        rw [if_neg h3] at hl
        dsimp only at hl ⊢
        refine ⟨by rw [hlen]; simp, by decide, by decide, fun h => absurd h (by decide), fun h => absurd rfl h, fun _ => ⟨rfl, by omega, numL_le _ _ (by decide)⟩⟩
    · rename_i h2
      rw [if_neg h2] at ht hl
      split
      · rename_i h3; rw [if_pos h3] at ht; simp at ht
      · rename_i h3
        rw [if_neg h3] at hl
        dsimp only at hl ⊢
        have hm : ((c :: r).take (signR (c :: r))).length = signR (c :: r) := by rw [List.length_take]; omega
        rw [hm]
        refine ⟨by omega, by decide, by decide, fun _ => rfl, fun _ => rfl, fun h => absurd h (by decide)⟩
theorem scan_stands (s : List UInt8) : ∀ (n p : Nat) (l : List UInt8), l.length ≤ n → s.drop p = l → p ≤ s.length → (∀ t ∈ (scanD p l).1, stands s t) ∧ rising p (scanD p l).1 ∧ ((scanD p l).2.2 ≠ 0 → (scanD p l).2.1 < s.length)
  | n, p, [], _, _, _ => ⟨by simp [scanD_nil], trivial, fun h => absurd rfl h⟩
  | 0, p, c :: r, h, _, _ => by simp at h
  | n + 1, p, c :: r, h, hs, hp => by
    simp only [List.length_cons, Nat.add_le_add_iff_right] at h
    have hlen : s.length = p + (r.length + 1) := by
      have := congrArg List.length hs
      rw [List.length_drop] at this
      simp at this; omega
    cases step1 p c r with
    | blank hb he =>
      rw [he]
      obtain ⟨h1, h2, h3⟩ := scan_stands s n (p + 1) r h (by rw [← List.drop_drop, hs]; rfl) (by omega)
      exact ⟨h1, rising_mono h2 (by omega), h3⟩
    | open' hb hc k hk hneg he =>
      rw [he]
      exact ⟨by simp, trivial, fun _ => by show p < s.length; omega⟩
    | comment hb hc k hk hle he =>
      rw [he]
      simp only [List.length_cons] at hle
      obtain ⟨h1, h2, h3⟩ := scan_stands s n (p + k + 1) ((c :: r).drop (k + 1)) (by simp; omega) (by rw [Nat.add_assoc, ← List.drop_drop, hs]) (by omega)
      exact ⟨h1, rising_mono h2 (by omega), h3⟩
    | bad hb hc ht he =>
      rw [he]
      exact ⟨by simp, trivial, fun _ => by show p < s.length; omega⟩
    | tok hb hc ht h1 h2 he =>
      rw [he]
      simp only [List.length_cons] at h2
      obtain ⟨g1, g2, g3⟩ := scan_stands s n (p + (tokR (c :: r)).2.1) ((c :: r).drop (tokR (c :: r)).2.1) (by simp; omega) (by rw [← List.drop_drop, hs]) (by omega)
      have hst := tok_stands hs ht
      unfold consT
      split
      · refine ⟨fun t htm => ?_, ⟨Nat.le_refl _, rising_mono g2 (by show p + 1 ≤ _; omega)⟩, g3⟩
        rcases List.mem_cons.1 htm with rfl | htm
        · exact hst
        · exact g1 t htm
      · exact ⟨by simp, trivial, g3⟩
theorem scan_all (s : List UInt8) : (∀ t ∈ (scanD 0 s).1, stands s t) ∧ rising 0 (scanD 0 s).1 ∧ ((scanD 0 s).2.2 ≠ 0 → (scanD 0 s).2.1 < s.length) := scan_stands s s.length 0 s (Nat.le_refl _) rfl (Nat.zero_le _)
end Go.Proofs.Yteafgnbkeghmdaa

/- Texts of the proof, in their order: Sm5, cSp2, cSp3, cSp4, cSp5, cSn10, Cr4, Li7. -/
import Derived.Test.YteddjcpaeoceeaaGreatDoorM8
import Derived.Test.YteddjcpaeoceeaaGreatDoorM6
import Derived.Test.YteddjcpaeoceeaaGreatDoorM2
set_option linter.unusedVariables false
set_option linter.unusedSimpArgs false
namespace Go.Proofs.YteddjcpaeoceeaaGreatDoor.Cm
open Go
set_option linter.unusedVariables false
set_option maxRecDepth 100000
set_option linter.unusedSimpArgs false
def ownC (k : Nat) : List In := [⟨17, 0, 0, 0, 29⟩, ⟨10, 29, 29, 0, -4⟩, ⟨10, 1, 29, 0, -2⟩, ⟨14, 1, 7, 0, 32767⟩, ⟨13, 31, 29, 0, 0⟩, ⟨13, 30, 29, 0, 1⟩, ⟨10, 30, 29, 0, 0⟩, ⟨13, 0, 30, 0, 2⟩, ⟨13, 0, 30, 0, 3⟩, ⟨12, 8, 30, 0, 2⟩, ⟨10, 9, 0, 0, 1⟩, ⟨1, 8, 8, 9, 0⟩, ⟨13, 8, 30, 0, 2⟩, ⟨10, 8, 0, 0, 99⟩, ⟨13, 8, 30, 0, 3⟩, ⟨12, 8, 0, 0, 0⟩, ⟨10, 9, 0, 0, 1⟩, ⟨1, 8, 8, 9, 0⟩, ⟨13, 8, 0, 0, 0⟩, ⟨12, 8, 30, 0, 2⟩, ⟨1, 4, 8, 0, 0⟩, ⟨20, 0, 0, 0, 2⟩, ⟨12, 8, 0, 0, 0⟩, ⟨1, 4, 8, 0, 0⟩, ⟨20, 0, 0, 0, 2⟩, ⟨10, 29, 30, 0, 4⟩, ⟨12, 31, 30, 0, 0⟩, ⟨12, 30, 30, 0, 1⟩, ⟨19, 31, 0, 0, 0⟩, ⟨10, 29, 0, 0, 60⟩, ⟨12, 8, 0, 0, 1⟩, ⟨10, 9, 0, 0, (k : Int)⟩, ⟨8, 8, 8, 9, 0⟩, ⟨15, 8, 0, 0, 6⟩, ⟨18, 0, 0, 0, 1⟩, ⟨12, 8, 0, 0, 1⟩, ⟨10, 9, 0, 0, 1⟩, ⟨1, 8, 8, 9, 0⟩, ⟨13, 8, 0, 0, 1⟩, ⟨17, 0, 0, 0, 30⟩, ⟨20, 0, 0, 0, 0⟩]
/-- At the head of the loop. -/
def ownS (r1 r4 r8 r9 r31 : Int) (c0 c1 c2 c3 : Int) (j : Nat) (O : List Int) : MS := ⟨[0, r1, 0, 0, r4, 0, 0, 0, r8, r9, 0, 0, 0, 0, 0, 0, 0, 0, 0, 0, 0, 0, 0, 0, 0, 0, 0, 0, 0, 60, 0, r31], [(j : Int), (j : Int), 0, 0, 0, 0, 0, 0, 0, 0, 0, 0, 0, 0, 0, 0, 0, 0, 0, 0, 0, 0, 0, 0, 0, 0, 0, 0, 0, 0, 0, 0, 0, 0, 0, 0, 0, 0, 0, 0, 0, 0, 0, 0, 0, 0, 0, 0, 0, 0, 0, 0, 0, 0, 0, 0, c0, c1, c2, c3], 30, [], O⟩
set_option maxHeartbeats 2000000 in
theorem own_round (r1 r4 r8 r9 r31 c0 c1 c2 c3 : Int) (j k : Nat) (O : List Int) (hk : k ≤ 20) (hj : j < k) (ho : O.length ≤ 1000) : ∃ a b c d e f g h i, Goes (ownC k) 38 (ownS r1 r4 r8 r9 r31 c0 c1 c2 c3 j O) (ownS a b c d e f g h i (j + 1) (O ++ [1, ((j + 1 : Nat) : Int)])) := by
  have h0 : (j : Int) < (k : Int) := by omega
  have h1 : w32 (j : Int) = (j : Int) := w32_id (by omega)
  have h2 : w32 (k : Int) = (k : Int) := w32_id (by omega)
  have h3 : w32 ((j : Int) + 1) = (j : Int) + 1 := w32_id (by omega)
  have w60 : w32 60 = 60 := w32_id (by decide)
  have w56 : w32 56 = 56 := w32_id (by decide)
  have w54 : w32 54 = 54 := w32_id (by decide)
  have w99 : w32 99 = 99 := w32_id (by decide)
  have w57 : w32 57 = 57 := w32_id (by decide)
  have w58 : w32 58 = 58 := w32_id (by decide)
  have w59 : w32 59 = 59 := w32_id (by decide)
  have w35 : w32 35 = 35 := w32_id (by decide)
  have o1 : ¬ 10000 ≤ O.length := by omega
  have o2 : ¬ 10000 ≤ O.length + 1 := by omega
  have hg : goodI ⟨10, 9, 0, 0, (k : Int)⟩ = true := by
    have h : ∀ k : Fin 21, goodI ⟨10, 9, 0, 0, ((k : Nat) : Int)⟩ = true := by decide
    exact h ⟨k, by omega⟩
  unfold ownS
  rw [Int.natCast_add, show ((1 : Nat) : Int) = 1 from rfl]
  refine ⟨?a9, ?b9, ?c9, ?d9, ?e9, ?f9, ?g9, ?h9, ?i9, ?z9⟩
  case z9 =>
    iterate 38 (refine Goes.more (goes1 rfl rfl (by first | rfl | assumption) (by simp [stepI, actQ, sysQ, loadQ, reckonQ, reckQ, nextQ, rgQ, setQ, w32_w32, w32_tru, truQ_t, truQ_f, w32_0, w32_1, List.getD, h0, h1, h2, h3, w60, w56, w54, w57, w58, w59, w99, w35, o1, o2]; try rfl)) ?_)
    exact Goes.rf _ _
def ownL (j : Nat) : Nat → List Int
  | 0 => []
  | d + 1 => 1 :: ((j + 1 : Nat) : Int) :: ownL (j + 1) d
theorem ownL_len : ∀ (d j : Nat), (ownL j d).length = 2 * d
  | 0, j => rfl
  | d + 1, j => by simp only [ownL, List.length_cons, ownL_len d (j + 1)]; omega
theorem ownL_snoc : ∀ (d j : Nat), ownL j (d + 1) = ownL j d ++ [1, ((j + d + 1 : Nat) : Int)]
  | 0, j => rfl
  | d + 1, j => by
    rw [ownL, ownL_snoc d (j + 1), ownL]
    simp only [List.cons_append, Nat.add_assoc, Nat.add_comm 1 d]
theorem own_loop (k : Nat) (hk : k ≤ 20) : ∀ (d j : Nat) (r1 r4 r8 r9 r31 c0 c1 c2 c3 : Int) (O : List Int), j + d = k → O.length + 2 * d ≤ 1000 → ∃ a b c d' e f g h i, Goes (ownC k) (38 * d) (ownS r1 r4 r8 r9 r31 c0 c1 c2 c3 j O) (ownS a b c d' e f g h i k (O ++ ownL j d))
  | 0, j, r1, r4, r8, r9, r31, c0, c1, c2, c3, O, hj, ho => by
    obtain rfl : j = k := by omega
    exact ⟨r1, r4, r8, r9, r31, c0, c1, c2, c3, by rw [ownL, List.append_nil]; exact Goes.rf _ _⟩
  | d + 1, j, r1, r4, r8, r9, r31, c0, c1, c2, c3, O, hj, ho => by
    obtain ⟨x1, x2, x3, x4, x5, x6, x7, x8, x9, hr⟩ := own_round r1 r4 r8 r9 r31 c0 c1 c2 c3 j k O hk (by omega) (by omega)
    obtain ⟨y1, y2, y3, y4, y5, y6, y7, y8, y9, hl⟩ := own_loop k hk d (j + 1) x1 x2 x3 x4 x5 x6 x7 x8 x9 (O ++ [1, ((j + 1 : Nat) : Int)]) (by omega) (by simp; omega)
    rw [List.append_assoc] at hl
    exact ⟨y1, y2, y3, y4, y5, y6, y7, y8, y9, hr.tr hl (by omega)⟩
theorem own_start (k : Nat) : Goes (ownC k) 2 (ms0 60 []) (ownS 0 0 0 0 0 0 0 0 0 0 []) := by
  have w60 : w32 60 = 60 := w32_id (by decide)
  rw [ms60]
  unfold ownS
  iterate 2 (refine Goes.more (goes1 rfl rfl (by first | rfl | assumption) (by simp [stepI, actQ, sysQ, loadQ, reckonQ, reckQ, nextQ, rgQ, setQ, w32_w32, w32_tru, truQ_t, truQ_f, w32_0, w32_1, List.getD, w60]; try rfl)) ?_)
  exact Goes.rf _ _
theorem own_end (r1 r4 r8 r9 r31 c0 c1 c2 c3 : Int) (k : Nat) (O : List Int) (hk : k ≤ 20) : ∃ m, Goes (ownC k) 4 (ownS r1 r4 r8 r9 r31 c0 c1 c2 c3 k O) m ∧ Stops (ownC k) m 1 O := by
  have h2 : w32 (k : Int) = (k : Int) := w32_id (by omega)
  have hg : goodI ⟨10, 9, 0, 0, (k : Int)⟩ = true := by
    have h : ∀ k : Fin 21, goodI ⟨10, 9, 0, 0, ((k : Nat) : Int)⟩ = true := by decide
    exact h ⟨k, by omega⟩
  unfold ownS
  refine ⟨?m7, ?a7, ?b7⟩
  case a7 =>
    iterate 4 (refine Goes.more (goes1 rfl rfl (by first | rfl | assumption) (by simp [stepI, actQ, sysQ, loadQ, reckonQ, reckQ, nextQ, rgQ, setQ, w32_w32, w32_tru, truQ_t, truQ_f, w32_0, w32_1, List.getD, h2]; try rfl)) ?_)
    exact Goes.rf _ _
  exact fun f hf => ⟨_, stop1 rfl rfl rfl (by simp [stepI, actQ, sysQ, loadQ, reckonQ, reckQ, nextQ, rgQ, setQ, w32_w32, w32_tru, truQ_t, truQ_f, w32_0, w32_1, List.getD]; try rfl) (by decide) hf, rfl⟩
theorem own_run (k : Nat) (hk : k ≤ 20) : ∃ n u, seqQ (ownC k) 60 [] 20000 = (1, n, ownL 0 k, u) := by
  obtain ⟨y1, y2, y3, y4, y5, y6, y7, y8, y9, h1⟩ := own_loop k hk k 0 0 0 0 0 0 0 0 0 0 [] (by omega) (by simp; omega)
  obtain ⟨m, h2, h3⟩ := own_end y1 y2 y3 y4 y5 y6 y7 y8 y9 k ([] ++ ownL 0 k) hk
  have h4 := ((own_start k).tr h1 rfl).tr h2 rfl
  exact seq_ex (n := 60) (fuel := 20000) (Nat.le_of_ble_eq_true rfl) (by decide) h4 h3 (by omega)
end Go.Proofs.YteddjcpaeoceeaaGreatDoor.Cm
namespace Go.Proofs.YteddjcpaeoceeaaGreatDoor.Sc
open Go Go.Sx Go.Sx.Chunk
set_option linter.unusedVariables false
set_option maxRecDepth 100000
set_option linter.unusedSimpArgs false
/-- One step: what is known of a text that is not empty. -/
inductive Step1 (p : Nat) (c : UInt8) (r : List UInt8) : Prop
  | blank (h : isBlank c = true) (he : scanD p (c :: r) = scanD (p + 1) r)
  | open' (h : isBlank c = false) (hc : c = 123) (k : Int) (hk : Lib.indexByte (c :: r) 125 = k) (hneg : k < 0) (he : scanD p (c :: r) = ([], p, 2))
  | comment (h : isBlank c = false) (hc : c = 123) (k : Nat) (hk : Lib.indexByte (c :: r) 125 = k) (hle : k + 1 ≤ (c :: r).length) (he : scanD p (c :: r) = scanD (p + k + 1) ((c :: r).drop (k + 1)))
  | bad (h : isBlank c = false) (hc : c ≠ 123) (hb : (tokR (c :: r)).2.2 ≠ 0) (he : scanD p (c :: r) = ([], p, (tokR (c :: r)).2.2))
  | tok (h : isBlank c = false) (hc : c ≠ 123) (hb : (tokR (c :: r)).2.2 = 0) (h1 : 1 ≤ (tokR (c :: r)).2.1) (h2 : (tokR (c :: r)).2.1 ≤ (c :: r).length) (he : scanD p (c :: r) = consT ((tokR (c :: r)).1, p) (scanD (p + (tokR (c :: r)).2.1) ((c :: r).drop (tokR (c :: r)).2.1)))
theorem step1 (p : Nat) (c : UInt8) (r : List UInt8) : Step1 p c r := by
  have h := scanD_cons p c r
  cases hb : isBlank c with
  | true => rw [hb, if_pos rfl] at h; exact .blank hb h
  | false =>
    rw [hb, if_neg (by simp)] at h
    by_cases hc : c = 123
    · rw [if_pos hc] at h
      by_cases hk : Lib.indexByte (c :: r) 125 < 0
      · rw [if_pos hk] at h; exact .open' hb hc _ rfl hk h
      · rw [if_neg hk] at h
        have := indexByte_lt (c :: r) 125
        exact .comment hb hc (Lib.indexByte (c :: r) 125).toNat (by omega) (by omega) h
    · rw [if_neg hc] at h
      by_cases ht : (tokR (c :: r)).2.2 ≠ 0
      · rw [if_pos ht] at h; exact .bad hb hc ht h
      · rw [if_neg ht] at h
        have ht' : (tokR (c :: r)).2.2 = 0 := by simpa using ht
        have := tokR_len ht'
        exact .tok hb hc ht' this.1 this.2 h
/-! ### Places further on -/
def shiftR (d : Nat) (r : ScanRes) : ScanRes := (r.1.map (fun t => (t.1, t.2 + d)), if r.2.2 = 0 then r.2.1 else r.2.1 + d, r.2.2)
theorem shift_cons (d : Nat) (t : Tk) (p : Nat) (r : ScanRes) : shiftR d (consT (t, p) r) = consT (t, p + d) (shiftR d r) := by
  unfold shiftR consT
  by_cases h : r.2.2 = 0 <;> simp [h]
theorem scanD_shift (d : Nat) : ∀ (n p : Nat) (l : List UInt8), l.length ≤ n → scanD (p + d) l = shiftR d (scanD p l)
  | n, p, [], _ => by simp [scanD_nil, shiftR]
  | 0, p, c :: r, h => by simp at h
  | n + 1, p, c :: r, h => by
    simp only [List.length_cons, Nat.add_le_add_iff_right] at h
    cases step1 p c r with
    | blank hb he =>
      rw [he, scanD_cons, hb, if_pos rfl, ← scanD_shift d n (p + 1) r h]
      congr 1; omega
    | open' hb hc k hk hneg he =>
      rw [he, scanD_cons, hb, if_neg (by simp), if_pos hc, hk, if_pos hneg]; rfl
    | comment hb hc k hk hle he =>
      rw [he, scanD_cons, hb, if_neg (by simp), if_pos hc, hk, if_neg (by omega), ← scanD_shift d n _ _ (by simp; omega)]
      rw [Int.toNat_natCast]
      congr 1; omega
    | bad hb hc ht he =>
      rw [he, scanD_cons, hb, if_neg (by simp), if_neg hc, if_pos ht]
      simp [shiftR, ht]
    | tok hb hc ht h1 h2 he =>
      rw [he, scanD_cons, hb, if_neg (by simp), if_neg hc, if_neg (by simpa using ht), shift_cons, ← scanD_shift d n _ _ (by simp; omega)]
      congr 2; omega
theorem skip_blanks : ∀ (bks l : List UInt8) (p : Nat), (∀ b ∈ bks, isBlank b = true) → scanD p (bks ++ l) = scanD (p + bks.length) l
  | [], l, p, _ => rfl
  | b :: bks, l, p, h => by
    rw [List.cons_append, scanD_cons, h b (by simp), if_pos rfl, skip_blanks bks l (p + 1) (fun c hc => h c (by simp [hc]))]
    congr 1; simp [Nat.add_comm, Nat.add_left_comm]
theorem idx_app {c : List UInt8} {l : List UInt8} {x : UInt8} (h : ∀ b ∈ c, b ≠ x) : Lib.indexByte (c ++ x :: l) x = c.length := by
  induction c with
  | nil => simp [Lib.indexByte]
  | cons b c ih =>
    have ih' := ih (fun d hd => h d (by simp [hd]))
    simp only [List.cons_append, Lib.indexByte]
    rw [if_neg (by simpa using h b (by simp)), ih', if_neg (by simp)]
    simp
theorem skip_comment (c l : List UInt8) (p : Nat) (h : ∀ b ∈ c, b ≠ 125) : scanD p (123 :: c ++ 125 :: l) = scanD (p + c.length + 2) l := by
  have hi : Lib.indexByte (123 :: (c ++ 125 :: l)) 125 = ((c.length + 1 : Nat) : Int) := by
    have := idx_app (c := 123 :: c) (l := l) (x := 125) (by intro b hb; rcases List.mem_cons.1 hb with rfl | hb; decide; exact h b hb)
    simpa using this
  rw [List.cons_append, scanD_cons, if_neg (by decide), if_pos rfl, hi, if_neg (by omega), Int.toNat_natCast]
  have hd : (123 :: (c ++ 125 :: l)).drop (c.length + 1 + 1) = l := by
    rw [List.drop_succ_cons, List.drop_append]
    simp
  rw [hd]
  congr 1
/-- Blanks and a comment ahead. -/
theorem scan_ahead (c bks l : List UInt8) (hc : ∀ b ∈ c, b ≠ 125) (hb : ∀ b ∈ bks, isBlank b = true) : scanD 0 (123 :: c ++ 125 :: (bks ++ l)) = shiftR (c.length + 2 + bks.length) (scanD 0 l) := by
  rw [skip_comment c (bks ++ l) 0 hc, skip_blanks bks l _ hb, ← scanD_shift _ _ 0 l (Nat.le_refl _)]
  congr 1; omega
end Go.Proofs.YteddjcpaeoceeaaGreatDoor.Sc
namespace Go.Proofs.YteddjcpaeoceeaaGreatDoor.Sc
open Go Go.Sx Go.Sx.Chunk
set_option linter.unusedVariables false
set_option maxRecDepth 100000
set_option linter.unusedSimpArgs false
theorem run_app {p : Int → Bool} (h32 : p 32 = false) (l m : List UInt8) : runL p (l ++ 32 :: m) = runL p l := by
  induction l with
  | nil =>
    simp only [List.nil_append, runL]
    rw [show (((32 : UInt8).toNat : Nat) : Int) = 32 from rfl, h32]; rfl
  | cons b l ih => simp only [List.cons_append, runL, ih]
theorem sign_app (c : UInt8) (r m : List UInt8) : signR (c :: r ++ 32 :: m) = signR (c :: r) := by
  cases r with
  | nil =>
    have h : two c 32 = false := by
      unfold two
      simp
    simp only [List.cons_append, List.nil_append, signR, h, Bool.false_eq_true, if_false]
  | cons d r => simp only [List.cons_append, signR]
theorem take_app {l m : List UInt8} {k : Nat} (h : k ≤ l.length) : (l ++ m).take k = l.take k := by
  rw [List.take_append_of_le_length h]
theorem tok_app (c : UInt8) (r m : List UInt8) : tokR (c :: r ++ 32 :: m) = tokR (c :: r) := by
  have e1 := run_app (p := isLD) (by decide) (c :: r) m
  have e2 := run_app (p := isDigit) (by decide) (c :: r) m
  have e3 := sign_app c r m
  have e4 := take_app (m := 32 :: m) (runL_le isLD (c :: r))
  have e5 := take_app (m := 32 :: m) (runL_le isDigit (c :: r))
  have e6 := take_app (m := 32 :: m) (signR_le c r)
  rw [List.cons_append] at *
  simp only [tokR, e1, e2, e3, e4, e5, e6]
theorem idx_app2 {l m : List UInt8} {x : UInt8} (h : 0 ≤ Lib.indexByte l x) : Lib.indexByte (l ++ m) x = Lib.indexByte l x := by
  induction l with
  | nil => simp [Lib.indexByte] at h
  | cons b l ih =>
    simp only [List.cons_append, Lib.indexByte] at h ⊢
    split
    · rfl
    · rename_i hb
      rw [if_neg hb] at h
      by_cases h2 : Lib.indexByte l x = -1
      · rw [h2] at h; simp at h
      · have := Lib.indexByte_ge l x
        rw [ih (by omega)]
theorem scan_join (m : List UInt8) : ∀ (n p : Nat) (l : List UInt8), l.length ≤ n → (scanD p l).2.2 = 0 → scanD p (l ++ 32 :: m) = comb (scanD p l).1 (scanD (p + l.length + 1) m)
  | n, p, [], _, _ => by
    rw [List.nil_append, scanD_cons, show isBlank 32 = true from rfl, if_pos rfl, scanD_nil]
    rw [comb_nil _ (scanD_res _ _ _ (Nat.le_refl _))]; rfl
  | 0, p, c :: r, h, _ => by simp at h
  | n + 1, p, c :: r, h, h0 => by
    simp only [List.length_cons, Nat.add_le_add_iff_right] at h
    rw [List.cons_append, scanD_cons, ← List.cons_append]
    cases step1 p c r with
    | blank hb he =>
      rw [he] at h0 ⊢
      rw [hb, if_pos rfl, scan_join m n (p + 1) r h h0]
      congr 2; simp; omega
    | open' hb hc k hk hneg he => rw [he] at h0; simp at h0
    | comment hb hc k hk hle he =>
      rw [he] at h0 ⊢
      rw [hb, if_neg (by simp), if_pos hc, idx_app2 (by omega), hk, if_neg (by omega), Int.toNat_natCast]
      rw [List.drop_append_of_le_length hle, scan_join m n _ _ (by simp; omega) h0]
      congr 2; simp only [List.length_cons] at hle; simp; omega
    | bad hb hc ht he => rw [he] at h0; exact absurd h0 ht
    | tok hb hc ht h1 h2 he =>
      rw [he] at h0 ⊢
      have h0' : (scanD (p + (tokR (c :: r)).2.1) ((c :: r).drop (tokR (c :: r)).2.1)).2.2 = 0 := by
        unfold consT at h0
        split at h0
        · assumption
        · rename_i hx; exact absurd h0 hx
      rw [tok_app, hb, if_neg (by simp), if_neg hc, if_neg (by simpa using ht), List.drop_append_of_le_length h2, scan_join m n _ _ (by simp; omega) h0']
      unfold consT
      rw [if_pos h0']
      simp only [List.length_cons] at h2
      rw [show p + (tokR (c :: r)).2.1 + ((c :: r).drop (tokR (c :: r)).2.1).length + 1 = p + (c :: r).length + 1 by simp; omega]
      unfold comb
      by_cases hx : (scanD (p + (c :: r).length + 1) m).2.2 = 0
      · rw [if_pos hx, if_pos hx, if_pos (by exact hx)]; simp
      · rw [if_neg hx, if_neg hx, if_neg (by exact hx)]
end Go.Proofs.YteddjcpaeoceeaaGreatDoor.Sc
namespace Go.Proofs.YteddjcpaeoceeaaGreatDoor.Sc
open Go Go.Sx Go.Sx.Chunk
set_option linter.unusedVariables false
set_option maxRecDepth 100000
set_option linter.unusedSimpArgs false

theorem low_no {b : UInt8} (h : ¬ (65 ≤ b.toNat ∧ b.toNat ≤ 90)) : lowB b = b := by unfold lowB; rw [if_neg h]
/-- The digit of a number below ten. -/
def dig (n : Nat) : UInt8 := (48 + n % 10).toUInt8
theorem dig_nat (n : Nat) : (dig n).toNat = 48 + n % 10 := by
  unfold dig
  simp only [Nat.toUInt8, UInt8.toNat_ofNat']
  omega
theorem dig_is (n : Nat) : isDigit ((dig n).toNat : Int) = true := by
  rw [dig_nat]; simp [isDigit]; omega
def digF : Nat → Nat → List UInt8
  | 0, n => [dig n]
  | f + 1, n => if n < 10 then [dig n] else digF f (n / 10) ++ [dig n]
def digL (n : Nat) : List UInt8 := digF n n
theorem digF_eq : ∀ (f g n : Nat), n ≤ f → n ≤ g → digF f n = digF g n
  | 0, 0, n, _, _ => rfl
  | 0, g + 1, n, h, _ => by
    obtain rfl : n = 0 := by omega
    simp [digF]
  | f + 1, 0, n, _, h => by
    obtain rfl : n = 0 := by omega
    simp [digF]
  | f + 1, g + 1, n, hf, hg => by
    simp only [digF]
    split
    · rfl
    · rw [digF_eq f g (n / 10) (by omega) (by omega)]
theorem digL_lo {n : Nat} (h : n < 10) : digL n = [dig n] := by
  unfold digL
  cases n with
  | zero => rfl
  | succ n => simp only [digF, if_pos h]
theorem digL_hi {n : Nat} (h : 10 ≤ n) : digL n = digL (n / 10) ++ [dig n] := by
  unfold digL
  cases n with
  | zero => omega
  | succ m =>
    simp only [digF]
    rw [if_neg (by omega), digF_eq m ((m + 1) / 10) _ (by omega) (Nat.le_refl _)]
theorem digL_all (n : Nat) : ∀ b ∈ digL n, isDigit (b.toNat : Int) = true := by
  induction n using Nat.strongRecOn with
  | ind n ih =>
    intro b hb
    by_cases h : n < 10
    · rw [digL_lo h] at hb
      simp only [List.mem_singleton] at hb
      subst hb; exact dig_is n
    · rw [digL_hi (by omega)] at hb
      rcases List.mem_append.1 hb with hb | hb
      · exact ih (n / 10) (by omega) b hb
      · simp only [List.mem_singleton] at hb
        subst hb; exact dig_is n
theorem digL_len (n : Nat) : 1 ≤ (digL n).length ∧ (n < 100000 → (digL n).length ≤ 5) := by
  have key : ∀ k n, n < 10 ^ (k + 1) → (digL n).length ≤ k + 1 := by
    intro k
    induction k with
    | zero => intro n h; rw [digL_lo (by omega)]; simp
    | succ k ih =>
      intro n h
      by_cases h10 : n < 10
      · rw [digL_lo h10]; simp
      · rw [digL_hi (by omega), List.length_append]
        have := ih (n / 10) (by rw [Nat.pow_succ] at h; omega)
        simp; omega
  refine ⟨?_, fun h => key 4 n h⟩
  by_cases h : n < 10
  · rw [digL_lo h]; simp
  · rw [digL_hi (by omega)]; simp
/-- Digits mean their number. -/
def valL (l : List UInt8) (n : Int) : Int := l.foldl (fun n b => 10 * n + ((b.toNat : Int) - 48)) n
theorem valL_digL (n : Nat) : valL (digL n) 0 = n := by
  induction n using Nat.strongRecOn with
  | ind n ih =>
    by_cases h : n < 10
    · rw [digL_lo h]
      simp only [valL, List.foldl_cons, List.foldl_nil, dig_nat]
      omega
    · rw [digL_hi (by omega)]
      have := ih (n / 10) (by omega)
      unfold valL at this ⊢
      rw [List.foldl_append, this]
      simp only [List.foldl_cons, List.foldl_nil, dig_nat]
      omega
theorem valL_mono : ∀ (l : List UInt8) (n : Int), (∀ b ∈ l, isDigit (b.toNat : Int) = true) → 0 ≤ n → n ≤ valL l n
  | [], n, _, _ => Int.le_refl _
  | b :: l, n, hd, h0 => by
    have hb := hd b (by simp)
    simp only [isDigit, Bool.and_eq_true, decide_eq_true_eq] at hb
    have := valL_mono l (10 * n + ((b.toNat : Int) - 48)) (fun c hc => hd c (by simp [hc])) (by omega)
    unfold valL at this ⊢
    rw [List.foldl_cons]
    omega
theorem numL_val : ∀ (l : List UInt8) (n : Int), (∀ b ∈ l, isDigit (b.toNat : Int) = true) → 0 ≤ n → valL l n ≤ 32767 → numL l n = valL l n
  | [], n, _, _, _ => rfl
  | b :: l, n, hd, h0, h1 => by
    have hb := hd b (by simp)
    simp only [isDigit, Bool.and_eq_true, decide_eq_true_eq] at hb
    have hm := valL_mono l (10 * n + ((b.toNat : Int) - 48)) (fun c hc => hd c (by simp [hc])) (by omega)
    have h1' : valL l (10 * n + ((b.toNat : Int) - 48)) ≤ 32767 := by
      unfold valL at h1 ⊢; rwa [List.foldl_cons] at h1
    simp only [numL]
    rw [if_neg (by omega), numL_val l _ (fun c hc => hd c (by simp [hc])) (by omega) h1']
    rfl
theorem numL_digL {n : Nat} (h : n ≤ 32767) : numL (digL n) 0 = n := by
  rw [numL_val _ 0 (digL_all n) (Int.le_refl _) (by rw [valL_digL]; omega), valL_digL]

theorem runL_full {p : Int → Bool} : ∀ {l m : List UInt8} {x : UInt8}, (∀ b ∈ l, p (b.toNat : Int) = true) → p (x.toNat : Int) = false → runL p (l ++ x :: m) = l.length
  | [], m, x, _, hx => by simp [runL, hx]
  | b :: l, m, x, h, hx => by
    rw [List.cons_append]
    simp only [runL, h b (by simp), if_true, List.length_cons]
    rw [runL_full (fun c hc => h c (by simp [hc])) hx]
theorem digit_nums {b : UInt8} (h : isDigit (b.toNat : Int) = true) : 48 ≤ b.toNat ∧ b.toNat ≤ 57 := by
  simp only [isDigit, Bool.and_eq_true, decide_eq_true_eq] at h; omega
theorem digit_low {l : List UInt8} (h : ∀ b ∈ l, isDigit (b.toNat : Int) = true) : l.map lowB = l := by
  induction l with
  | nil => rfl
  | cons b l ih =>
    have := digit_nums (h b (by simp))
    rw [List.map_cons, ih (fun c hc => h c (by simp [hc])), low_no (by omega)]
/-- One number, as a name and as a number. -/
def wordL (n : Nat) : List UInt8 := 78 :: digL n ++ 10 :: (digL n ++ [32])
theorem scan_word (n p : Nat) (l : List UInt8) (hn : n ≤ 32767) : scanD p (wordL n ++ l) = consT (⟨1, 110 :: digL n, 0⟩, p) (consT (⟨2, [], n⟩, p + (digL n).length + 2) (scanD (p + (wordL n).length) l)) := by
  have hall := digL_all n
  obtain ⟨h1, h5⟩ := digL_len n
  have h5 := h5 (by omega)
  have hw : wordL n ++ l = 78 :: (digL n ++ 10 :: (digL n ++ 32 :: l)) := by simp [wordL]
  have hr1 : runL isLD (78 :: (digL n ++ 10 :: (digL n ++ 32 :: l))) = (digL n).length + 1 := by
    simp only [runL]
    rw [if_pos (by decide), runL_full (fun b hb => by unfold isLD; rw [hall b hb]; simp) (by decide)]
  have ht1 : tokR (78 :: (digL n ++ 10 :: (digL n ++ 32 :: l))) = (⟨1, 110 :: digL n, 0⟩, (digL n).length + 1, 0) := by
    simp only [tokR]
    rw [if_pos (by decide), hr1, if_neg (by omega)]
    have : (78 :: (digL n ++ 10 :: (digL n ++ 32 :: l))).take ((digL n).length + 1) = 78 :: digL n := by
      rw [List.take_succ_cons, List.take_left]
    rw [this, List.map_cons, digit_low hall]
    rfl
  rw [hw, scanD_cons, if_neg (by decide), if_neg (by decide), ht1, if_neg (by simp)]
  congr 1
  have hd1 : (78 :: (digL n ++ 10 :: (digL n ++ 32 :: l))).drop ((digL n).length + 1) = 10 :: (digL n ++ 32 :: l) := by
    rw [List.drop_succ_cons, List.drop_left]
  dsimp only
  rw [hd1, scanD_cons, show isBlank 10 = true from rfl, if_pos rfl]
  obtain ⟨c, r, hcr⟩ : ∃ c r, digL n = c :: r := by
    cases h : digL n with
    | nil => rw [h] at h1; simp at h1
    | cons c r => exact ⟨c, r, rfl⟩
  have hc := hall c (by rw [hcr]; simp)
  have hcn := digit_nums hc
  have hnl : isLetter (c.toNat : Int) = false := by simp [isLetter]; omega
  have hnb : isBlank c = false := by
    simp only [isBlank, Bool.or_eq_false_iff, beq_eq_false_iff_ne, ne_eq, ← UInt8.toNat_inj]
    exact ⟨⟨⟨by show c.toNat ≠ 32; omega, by show c.toNat ≠ 9; omega⟩, by show c.toNat ≠ 10; omega⟩, by show c.toNat ≠ 13; omega⟩
  have hn123 : c ≠ 123 := by intro h; subst h; simp at hcn
  have hr2 : runL isDigit (digL n ++ 32 :: l) = (digL n).length := runL_full hall (by decide)
  have ht2 : tokR (digL n ++ 32 :: l) = (⟨2, [], n⟩, (digL n).length, 0) := by
    rw [hcr, List.cons_append]
    simp only [tokR]
    rw [hnl, if_neg (by simp), hc, if_pos rfl, ← List.cons_append, ← hcr, hr2, List.take_left, numL_digL hn, if_neg (by omega)]
  rw [hcr, List.cons_append, scanD_cons, hnb, if_neg (by simp), if_neg hn123, ← List.cons_append, ← hcr, ht2, if_neg (by simp)]
  dsimp only
  rw [List.drop_left, scanD_cons, show isBlank 32 = true from rfl, if_pos rfl]
  congr 2
  simp [wordL]; omega
/-- Numbers, each told as a name, and as a number. -/
def wordsL (l : List Nat) : List UInt8 := l.flatMap wordL
def wordsT : Nat → List Nat → List (Tk × Nat)
  | _, [] => []
  | p, n :: l => (⟨1, 110 :: digL n, 0⟩, p) :: (⟨2, [], n⟩, p + (digL n).length + 2) :: wordsT (p + (wordL n).length) l
theorem scan_words : ∀ (l : List Nat) (p : Nat), (∀ n ∈ l, n ≤ 32767) → scanD p (wordsL l) = (wordsT p l, 0, 0)
  | [], p, _ => rfl
  | n :: l, p, h => by
    rw [wordsL, List.flatMap_cons, scan_word n p _ (h n (by simp)), show l.flatMap wordL = wordsL l from rfl, scan_words l _ (fun m hm => h m (by simp [hm]))]
    simp [consT, wordsT]
theorem wordsT_len : ∀ (l : List Nat) (p : Nat), (wordsT p l).length = 2 * l.length
  | [], p => rfl
  | n :: l, p => by simp only [wordsT, List.length_cons, wordsT_len l]; omega
theorem wordsT_get : ∀ {l : List Nat} {p k n : Nat}, l[k]? = some n → ∃ q q', (wordsT p l)[2 * k]? = some (⟨1, 110 :: digL n, 0⟩, q) ∧ (wordsT p l)[2 * k + 1]? = some (⟨2, [], n⟩, q')
  | [], p, k, n, h => by simp at h
  | m :: l, p, 0, n, h => by
    simp only [List.getElem?_cons_zero, Option.some.injEq] at h
    subst h
    exact ⟨p, _, rfl, rfl⟩
  | m :: l, p, k + 1, n, h => by
    obtain ⟨q, q', h1, h2⟩ := wordsT_get (l := l) (p := p + (wordL m).length) (k := k) (n := n) (by simpa using h)
    refine ⟨q, q', ?_, ?_⟩
    · rw [show 2 * (k + 1) = 2 * k + 1 + 1 by omega]; simpa [wordsT] using h1
    · rw [show 2 * (k + 1) + 1 = 2 * k + 1 + 1 + 1 by omega]; simpa [wordsT] using h2
end Go.Proofs.YteddjcpaeoceeaaGreatDoor.Sc
namespace Go.Proofs.YteddjcpaeoceeaaGreatDoor.Sc
open Go
set_option linter.unusedVariables false
set_option maxRecDepth 100000
set_option linter.unusedSimpArgs false
theorem scan_blank (p : Nat) (l : List UInt8) : scanD p (32 :: l) = scanD (p + 1) l := by
  rw [scanD_cons, show isBlank 32 = true from rfl, if_pos rfl]
/-- A word of small letters and digits. -/
theorem scan_name (c : UInt8) (w : List UInt8) (x : UInt8) (l : List UInt8) (p : Nat) (hc : isLetter (c.toNat : Int) = true) (hall : ∀ b ∈ c :: w, isLD (b.toNat : Int) = true) (hlow : (c :: w).map lowB = c :: w) (hlen : (c :: w).length ≤ 16) (hx : isLD (x.toNat : Int) = false) :
    scanD p (c :: w ++ x :: l) = consT (⟨1, c :: w, 0⟩, p) (scanD (p + (c :: w).length) (x :: l)) := by
  have hr1 : runL isLD (c :: w ++ x :: l) = (c :: w).length := runL_full hall hx
  have ht1 : tokR (c :: w ++ x :: l) = (⟨1, c :: w, 0⟩, (c :: w).length, 0) := by
    rw [List.cons_append] at hr1 ⊢
    simp only [tokR]
    rw [if_pos hc, hr1, if_neg (by omega)]
    rw [← List.cons_append, List.take_left, hlow]
  have hcl : (97 ≤ c.toNat ∧ c.toNat ≤ 122) ∨ (65 ≤ c.toNat ∧ c.toNat ≤ 90) := by
    simp only [isLetter, Bool.or_eq_true, Bool.and_eq_true, decide_eq_true_eq] at hc; omega
  have hnb : isBlank c = false := by
    simp only [isBlank, Bool.or_eq_false_iff, beq_eq_false_iff_ne, ne_eq, ← UInt8.toNat_inj]
    exact ⟨⟨⟨by show c.toNat ≠ 32; omega, by show c.toNat ≠ 9; omega⟩, by show c.toNat ≠ 10; omega⟩, by show c.toNat ≠ 13; omega⟩
  have hn123 : c ≠ 123 := by intro h; subst h; simp at hcl
  have h := scanD_cons p c (w ++ x :: l)
  rw [hnb, if_neg (by simp), if_neg hn123, ← List.cons_append, ht1, if_neg (by simp)] at h
  dsimp only at h
  rw [List.drop_left] at h
  rw [List.cons_append] at h ⊢
  exact h
theorem scan_num (n : Nat) (x : UInt8) (l : List UInt8) (p : Nat) (hn : n ≤ 32767) (hx : isDigit (x.toNat : Int) = false) :
    scanD p (digL n ++ x :: l) = consT (⟨2, [], n⟩, p) (scanD (p + (digL n).length) (x :: l)) := by
  have hall := digL_all n
  obtain ⟨h1, -⟩ := digL_len n
  obtain ⟨c, r, hcr⟩ : ∃ c r, digL n = c :: r := by
    cases h : digL n with
    | nil => rw [h] at h1; simp at h1
    | cons c r => exact ⟨c, r, rfl⟩
  have hc := hall c (by rw [hcr]; simp)
  have hcn := digit_nums hc
  have hnl : isLetter (c.toNat : Int) = false := by simp [isLetter]; omega
  have hnb : isBlank c = false := by
    simp only [isBlank, Bool.or_eq_false_iff, beq_eq_false_iff_ne, ne_eq, ← UInt8.toNat_inj]
    exact ⟨⟨⟨by show c.toNat ≠ 32; omega, by show c.toNat ≠ 9; omega⟩, by show c.toNat ≠ 10; omega⟩, by show c.toNat ≠ 13; omega⟩
  have hn123 : c ≠ 123 := by intro h; subst h; simp at hcn
  have hr2 : runL isDigit (digL n ++ x :: l) = (digL n).length := runL_full hall hx
  have ht2 : tokR (digL n ++ x :: l) = (⟨2, [], n⟩, (digL n).length, 0) := by
    rw [hcr, List.cons_append]
    simp only [tokR]
    rw [hnl, if_neg (by simp), hc, if_pos rfl, ← List.cons_append, ← hcr, hr2, List.take_left, numL_digL hn, if_neg (by omega)]
  have h := scanD_cons p c (r ++ x :: l)
  rw [hnb, if_neg (by simp), if_neg hn123, ← List.cons_append, ← hcr, ht2, if_neg (by simp)] at h
  dsimp only at h
  rw [List.drop_left] at h
  exact h
/-- A sign of one byte, that begins none of two. -/
theorem scan_sign (c : UInt8) (l : List UInt8) (p : Nat) (h1 : onesL.contains c = true) (h2 : c ≠ 58 ∧ c ≠ 60 ∧ c ≠ 62) :
    scanD p (c :: l) = consT (⟨3, [c], 0⟩, p) (scanD (p + 1) l) := by
  have hone : signR (c :: l) = 1 := by
    cases l with
    | nil => simp only [signR]; rw [if_pos h1]
    | cons d r =>
      simp only [signR]
      rw [if_neg, if_pos h1]
      simp [two, h2]
  have hm : ∀ c, onesL.contains c = true → isLetter (c.toNat : Int) = false ∧ isDigit (c.toNat : Int) = false ∧ isBlank c = false ∧ c ≠ 123 := by
    intro c hc
    simp only [onesL, List.contains_cons, List.contains_nil, Bool.or_false, Bool.or_eq_true, beq_iff_eq] at hc
    rcases hc with rfl | rfl | rfl | rfl | rfl | rfl | rfl | rfl | rfl | rfl | rfl | rfl | rfl | rfl <;> decide
  obtain ⟨m1, m2, m3, m4⟩ := hm c h1
  have ht : tokR (c :: l) = (⟨3, [c], 0⟩, 1, 0) := by
    simp only [tokR]
    rw [m1, if_neg (by simp), m2, if_neg (by simp), hone, if_neg (by simp)]
    rfl
  rw [scanD_cons, m3, if_neg (by simp), if_neg m4, ht, if_neg (by simp)]
  rfl
end Go.Proofs.YteddjcpaeoceeaaGreatDoor.Sc
namespace Go.Proofs.YteddjcpaeoceeaaGreatDoor.Sc
open Go Go.Sx Go.Sx.Chunk
set_option linter.unusedVariables false
set_option maxRecDepth 100000
set_option linter.unusedSimpArgs false

theorem bs_app' (a b : List UInt8) : bs a ++ bs b = bs (a ++ b) := by
  rw [← bs_txt (bs a ++ bs b)]
  simp [txt, bs]
theorem bytC_dig (n : Nat) (v : Int) (hv : v = ((48 + n % 10 : Nat) : Int)) : [Value.int .u8 v] = bytC (bs [dig n]) ++ [] := by
  rw [hv]
  simp only [bytC, bs, List.map_cons, List.map_nil, List.append_nil, dig_nat]
theorem bs_one (n : Nat) : 1 = (bs [dig n]).size := rfl
set_option maxHeartbeats 1000000 in
theorem digitsC (n : Nat) (hn : n ≤ 1000000000) : FnC (α := Unit) Tryz.prog 18 [.int .i64 n] [] [] (fun _ => .string (bs (digL n))) (fun _ => []) (fun _ => True) := by
  refine fn_intro Tryz.func18 Tryz.ntmps18 rfl rfl rfl (fun w0 => ?_)
  try simp only [List.cons_append, List.nil_append, List.append_nil]
  have h1 : [Value.int .u8 (48 + (n : Int) % 10)] = bytC (bs [dig n]) ++ [] := bytC_dig n _ (by omega)
  have h2 := bs_one n
  refine rr ?_
  intro b _
  refine rr ?_
  refine w_sub [] rfl ?_
  refine w_loop (α := Nat × List UInt8) (fun x => [(0, .int .i64 (x.1 : Int)), (3, .string (bs x.2))]) (fun _ => []) (fun x => x.1 ≤ n ∧ x.2.length + x.1 ≤ n + 1 ∧ digL n = (if 10 ≤ x.1 then digL (x.1 / 10) else []) ++ x.2) (fun x => x.1) (n, [dig n]) ⟨rfl, rfl, trivial⟩ rfl ⟨Nat.le_refl _, by simp; omega, ?_⟩ ?_
  · dsimp only
    split
    · rename_i h; rw [digL_hi h]
    · rename_i h; rw [digL_lo (by omega)]; rfl
  rintro ⟨m, l⟩ ⟨hm, hl, hd⟩ K1 hK1
  dsimp only at hm hl hd ⊢
  by_cases h10 : 10 ≤ m
  · rw [if_pos h10] at hd
    have h1 : [Value.int .u8 (48 + (m : Int) / 10 % 10)] = bytC (bs [dig (m / 10)]) ++ [] := bytC_dig (m / 10) _ (by omega)
    have h2 := bs_one (m / 10)
    have h3 := bs_size l
    refine rr ?_
    intro b _
    refine rr ?_
    refine w_sub [] rfl ?_
    refine w_round hK1 (m / 10, dig (m / 10) :: l) ⟨by show m / 10 ≤ n; omega, by simp; omega, ?_⟩ (by show m / 10 < m; omega) rfl ⟨rfl, ?_, trivial⟩
    · show digL n = (if 10 ≤ m / 10 then digL (m / 10 / 10) else []) ++ dig (m / 10) :: l
      rw [hd]
      split
      · rename_i h; rw [digL_hi h]; simp
      · rename_i h; rw [digL_lo (by omega)]; rfl
    · show some (Value.string (bs [dig (m / 10)] ++ bs l)) = _
      rw [bs_app']; rfl
  · rw [if_neg h10, List.nil_append] at hd
    subst hd
    refine rr ?_
    exact we () [] trivial
end Go.Proofs.YteddjcpaeoceeaaGreatDoor.Sc
namespace Go.Proofs.YteddjcpaeoceeaaGreatDoor.Cm
open Go
set_option linter.unusedVariables false
set_option maxRecDepth 100000
set_option linter.unusedSimpArgs false
def ownA : List UInt8 := [112, 114, 111, 103, 114, 97, 109, 32, 97, 59, 32, 118, 97, 114, 32, 120, 59, 32, 118, 97, 114, 32, 105, 59, 32, 112, 114, 111, 99, 101, 100, 117, 114, 101, 32, 112, 59, 32, 118, 97, 114, 32, 121, 44, 32, 105, 59, 32, 98, 101, 103, 105, 110, 32, 121, 32, 58, 61, 32, 121, 32, 43, 32, 49, 59, 32, 105, 32, 58, 61, 32, 57, 57, 59, 32, 120, 32, 58, 61, 32, 120, 32, 43, 32, 49, 59, 32, 119, 114, 105, 116, 101, 32, 121, 59, 32, 119, 114, 105, 116, 101, 32, 120, 32, 101, 110, 100, 59, 32, 98, 101, 103, 105, 110, 32, 119, 104, 105, 108, 101, 32, 105, 32, 60, 32]
def ownZ : List UInt8 := [32, 100, 111, 32, 112, 59, 32, 105, 32, 58, 61, 32, 105, 32, 43, 32, 49, 32, 101, 110, 100, 32, 101, 110, 100, 46]
theorem own_fact : ∀ k : Fin 21, factB (ownA ++ Sc.digL k ++ ownZ) 60 (ownC k) 2 = true := by decide +kernel
end Go.Proofs.YteddjcpaeoceeaaGreatDoor.Cm
namespace Go.Proofs.YteddjcpaeoceeaaGreatDoor.Cm
open Go Go.Sx Go.Sx.Chunk
set_option linter.unusedVariables false
set_option maxRecDepth 100000
set_option linter.unusedSimpArgs false
theorem own_runC (k : Nat) (hk : k ≤ 20) : ∃ n u, ∀ s, s = Sc.bs (ownA ++ Sc.digL k ++ ownZ) → FnC Tryz.prog 24 [.string s, .slice none 0 0] [] [spaceV, rng none []] (fun z => resG (1, n, ownL 0 k, u) z) (fun z => resH (1, n, ownL 0 k, u) z) (fun _ => True) := by
  obtain ⟨f1, f2, f3⟩ := fact_of (own_fact ⟨k, by omega⟩)
  dsimp only at f1 f2 f3
  obtain ⟨n, u, hrun⟩ := own_run k hk
  refine ⟨n, u, fun s hs => ?_⟩
  subst hs
  have hd := (Sc.digL_len k).2 (by omega)
  have h1 := runLC (Sc.bs (ownA ++ Sc.digL k ++ ownZ)) (compO (ownA ++ Sc.digL k ++ ownZ)) (ownC k) 2 none 0 [] (by rw [Sc.bs_size]; simp only [List.length_append, ownA, ownZ, List.length_cons, List.length_nil]; omega) (by rw [Sc.txt_bs]; exact f1) f2 f3 (by simp)
  rw [hrun] at h1
  exact h1
theorem own_bs (A Z : ByteArray) (l : List UInt8) (hA : A = Sc.bs ownA) (hZ : Z = Sc.bs ownZ) : A ++ Sc.bs l ++ Z = Sc.bs (ownA ++ l ++ ownZ) := by
  rw [hA, hZ, Sc.bs_app', Sc.bs_app']
theorem ownL_cells (j : Nat) : i64C (ownL 0 (j + 1)) = i64C (ownL 0 j) ++ [Value.int .i64 1, Value.int .i64 ((j : Int) + 1)] := by
  rw [ownL_snoc]
  unfold i64C
  rw [List.map_append, Nat.zero_add]
  rfl
set_option maxHeartbeats 4000000 in
theorem own_law (v : Int) (hv0 : inK .u8 v) : FnC (α := Unit) Tryz.prog 11 [.int .u8 v] [] [spaceV] (fun _ => .bool true) (fun _ => []) (fun _ => True) := by
  have haw := awakeC
  have hr : 0 ≤ v ∧ v ≤ 255 := by simpa [inK, IntKind.min, IntKind.max, IntKind.signed, IntKind.bits] using hv0
  obtain ⟨hr1, hr2⟩ := hr
  obtain ⟨k, hk⟩ : ∃ k : Nat, v % 21 = (k : Int) := ⟨(v % 21).toNat, by omega⟩
  have hk20 : k ≤ 20 := by omega
  obtain ⟨n, u, h1⟩ := own_runC k hk20
  have h2 := fun z wa wc => tellsC (ownL 0 k) u n z wa wc (by rw [ownL_len]; omega)
  have hd1 := Sc.digitsC k (by omega)
  have hL1 := (Sc.digL_len k).2 (by omega)
  have hs1 : (Sc.bs (Sc.digL k)).size ≤ 5 := by rw [Sc.bs_size]; exact hL1
  have hlen := fun j => ownL_len j 0
  unfold resG resH at *
  dsimp only at h1 h2
  simp only [ownL_len] at h1 h2
  refine fn_intro Tryz.func11 Tryz.ntmps11 rfl rfl rfl (fun w0 => ?_)
  try simp only [List.cons_append, List.nil_append, List.append_nil]
  refine rr ?_
  rw [hk]
  refine hv [row none 0 3 1 (2 * 0) (i64C (ownL 0 0)), spaceV] ?_
  refine lo [3, 10] (fun z : Nat × Option Addr × Nat => [(4, .slice z.2.1 (2 * z.1) z.2.2), (11, .int .i64 (z.1 : Int))]) (fun z => [(0, row z.2.1 z.2.2 3 1 (2 * z.1) (i64C (ownL 0 z.1)))]) (fun z => z.1 ≤ k) (fun z => k - z.1) (0, none, 0) (Nat.zero_le _) ?_
  rintro ⟨j, oa, oc⟩ hj K1 hK1
  dsimp only at hj ⊢
  by_cases hlt : j < k
  · have e1 := ownL_cells j
    refine rr ?_
    intro b1 _
    refine rr ?_
    rintro ⟨pa, pc⟩ ⟨ph, _⟩
    refine rr ?_
    rw [← e1]
    exact ro hK1 (j + 1, pa, pc) (by dsimp only; omega)
  · obtain rfl : j = k := by omega
    have h3 := hlen j
    refine rr ?_
    refine cl (hd1) ?_
    intro _ _
    try simp only [List.cons_append, List.nil_append, List.append_nil]
    simp only [List.append_eq, List.cons_append, List.nil_append]
    refine rr ?_
    refine cl (h1 _ (own_bs _ _ _ (by kernel_rfl) (by kernel_rfl))) ?_
    intro z _
    try simp only [List.cons_append, List.nil_append, List.append_nil]
    refine rr ?_
    refine cl (h2 z _ _) ?_
    intro _ _
    try simp only [List.cons_append, List.nil_append, List.append_nil]
    refine rr ?_
    refine cl (haw) ?_
    intro _ _
    try simp only [List.cons_append, List.nil_append, List.append_nil]
    refine rr ?_
    exact en () trivial
end Go.Proofs.YteddjcpaeoceeaaGreatDoor.Cm

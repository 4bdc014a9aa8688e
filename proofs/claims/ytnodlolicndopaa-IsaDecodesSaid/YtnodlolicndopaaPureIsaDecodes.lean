/- The pure law of IsaDecodes: for each input the printed function of the law answers true. No condition. -/
import Derived.Test.YtnodlolicndopaaPIsaDecodesx5
namespace Go.Proofs.Ytnodlolicndopaa.Pure.Decodes
open Go Go.RowKit Go.Proofs.Ytnodlolicndopaa.PIsaDecodes Go.Proofs.YtnodlolicndopaaW.PrintWords Go.Proofs.YtnodlolicndopaaW.PrintLast Go.Proofs.YtnodlolicndopaaW.PrintMore

/-- The parts that an operation has: a, b, c, a number; and whether it is one. -/
def ofS (op : Int) : Bool × Bool × Bool × Bool × Bool :=
  if op = 0 then (false, false, false, false, true)
  else if 1 ≤ op ∧ op ≤ 9 then (true, true, true, false, true)
  else if op = 10 ∨ (12 ≤ op ∧ op ≤ 16) then (true, true, false, true, true)
  else if op = 11 then (true, false, false, true, true)
  else if op = 17 ∨ op = 18 ∨ op = 20 then (false, false, false, true, true)
  else if op = 19 then (true, false, false, false, true)
  else (false, false, false, false, false)

theorem ops_all {op : Int} (h0 : 0 ≤ op) (h1 : op ≤ 20) : op = 0 ∨ op = 1 ∨ op = 2 ∨ op = 3 ∨ op = 4 ∨ op = 5 ∨ op = 6 ∨ op = 7 ∨ op = 8 ∨ op = 9 ∨ op = 10 ∨ op = 11 ∨ op = 12 ∨ op = 13 ∨ op = 14 ∨ op = 15 ∨ op = 16 ∨ op = 17 ∨ op = 18 ∨ op = 19 ∨ op = 20 := by omega

theorem of_eq (k : Nat) (op : Int) : isa_of.f (k + 3) op = some (ofS op) := by
  by_cases h : 0 ≤ op ∧ op ≤ 20
  · rcases ops_all h.1 h.2 with rfl | rfl | rfl | rfl | rfl | rfl | rfl | rfl | rfl | rfl | rfl | rfl | rfl | rfl | rfl | rfl | rfl | rfl | rfl | rfl | rfl <;> rfl
  · have hne : ∀ c : Int, 0 ≤ c → c ≤ 20 → op ≠ c := by intro c _ _ _; omega
    have n0 := hne 0 (by omega) (by omega)
    have n1 := hne 1 (by omega) (by omega)
    have n2 := hne 2 (by omega) (by omega)
    have n3 := hne 3 (by omega) (by omega)
    have n4 := hne 4 (by omega) (by omega)
    have n5 := hne 5 (by omega) (by omega)
    have n6 := hne 6 (by omega) (by omega)
    have n7 := hne 7 (by omega) (by omega)
    have n8 := hne 8 (by omega) (by omega)
    have n9 := hne 9 (by omega) (by omega)
    have n10 := hne 10 (by omega) (by omega)
    have n11 := hne 11 (by omega) (by omega)
    have n12 := hne 12 (by omega) (by omega)
    have n13 := hne 13 (by omega) (by omega)
    have n14 := hne 14 (by omega) (by omega)
    have n15 := hne 15 (by omega) (by omega)
    have n16 := hne 16 (by omega) (by omega)
    have n17 := hne 17 (by omega) (by omega)
    have n18 := hne 18 (by omega) (by omega)
    have n19 := hne 19 (by omega) (by omega)
    have n20 := hne 20 (by omega) (by omega)
    have e : ofS op = (false, false, false, false, false) := by
      unfold ofS
      rw [if_neg n0, if_neg (by omega), if_neg (by omega), if_neg n11, if_neg (by omega), if_neg n19]
    rw [e]
    simp only [isa_of.f, isa_of.j0, isa_of.j1, isa_of.j2, n0, n1, n2, n3, n4, n5, n6, n7, n8, n9, n10, n11, n12, n13, n14, n15, n16, n17, n18, n19, n20, if_false, beq_iff_eq]

/-- May a register be n? -/
def regS (n : Int) (had : Bool) : Bool := decide (n = 0) || (had && (decide (0 < n) && decide (n < 32)))
theorem reg_eq (n : Int) (had : Bool) : isa_reg.f n had = some (regS n had) := by
  unfold isa_reg.f regS
  cases had <;> by_cases h : n = 0 <;> by_cases h' : n > 0 <;> simp [h, h'] <;> omega

/-- May the number be n? -/
def numS (op n : Int) : Bool :=
  if op = 17 ∨ op = 18 then decide (0 ≤ n ∧ n ≤ 4096)
  else if op = 20 then decide (0 ≤ n ∧ n ≤ 2)
  else if op = 14 then decide (0 ≤ n ∧ n ≤ 32767)
  else decide (-32768 ≤ n ∧ n ≤ 32767)

theorem shl_15 : shl .i64 1 (wrap64 (16 - 1)) = 32768 := by decide +kernel
theorem wrap_15 : wrap64 (16 - 1) = 15 := by decide +kernel
theorem fits_eq (n : Int) : word_Fits.f n 16 = some (decide (-32768 ≤ n ∧ n ≤ 32767)) := by
  unfold word_Fits.f
  rw [shl_15, wrap_15, show wrap64 (-32768) = -32768 from by decide +kernel]
  rw [if_neg (by omega), if_neg (by omega), if_pos (by omega)]
  by_cases h : n ≥ -32768
  · rw [if_pos h]; congr 1; rw [Bool.eq_iff_iff]; simp; omega
  · rw [if_neg h]; congr 1; symm; simp; omega

theorem number_eq (k : Nat) (op n : Int) : isa_number.f (k + 1) op n = some (numS op n) := by
  unfold isa_number.f numS
  by_cases h17 : op = 17
  · subst h17
    simp only [isa_number.j0, if_true, beq_self_eq_true, true_or]
    by_cases h : n ≥ 0
    · rw [if_pos h]; congr 1; rw [Bool.eq_iff_iff]; simp; omega
    · rw [if_neg h]; congr 1; symm; simp; omega
  · rw [if_neg h17]
    by_cases h18 : op = 18
    · subst h18
      simp only [isa_number.j0, if_true, beq_self_eq_true, or_true]
      by_cases h : n ≥ 0
      · rw [if_pos h]; congr 1; rw [Bool.eq_iff_iff]; simp; omega
      · rw [if_neg h]; congr 1; symm; simp; omega
    · have hb : (op == 18) = false := beq_eq_false_iff_ne.mpr h18
      rw [hb]
      simp only [isa_number.j0, if_false, Bool.false_eq_true]
      rw [if_neg (show ¬ (op = 17 ∨ op = 18) by omega)]
      by_cases h20 : op = 20
      · rw [if_pos h20, if_pos h20]
        by_cases h : n ≥ 0
        · rw [if_pos h]; congr 1; rw [Bool.eq_iff_iff]; simp; omega
        · rw [if_neg h]; congr 1; symm; simp; omega
      · rw [if_neg h20, if_neg h20]
        by_cases h14 : op = 14
        · rw [if_pos h14, if_pos h14]
          by_cases h : n ≥ 0
          · rw [if_pos h, fits_eq]; simp only [Option.bind_some]; congr 1; rw [Bool.eq_iff_iff]; simp; omega
          · rw [if_neg h]; congr 1; symm; simp; omega
        · rw [if_neg h14, if_neg h14, fits_eq]; rfl

/-- Is an instruction right? -/
def rightS (op a b c n : Int) : Bool :=
  (ofS op).2.2.2.2 && (regS a (ofS op).1 && (regS b (ofS op).2.1 && (regS c (ofS op).2.2.1 && (decide (n = 0) || ((ofS op).2.2.2.1 && numS op n)))))

theorem right_eq (k : Nat) (op a b c n : Int) : isa_Right.f (k + 3) op a b c n = some (rightS op a b c n) := by
  unfold isa_Right.f rightS
  rw [of_eq]
  simp only [Option.bind_some, reg_eq, number_eq (k + 2)]
  generalize ofS op = p
  obtain ⟨p1, p2, p3, p4, p5⟩ := p
  dsimp only
  cases p5 <;> cases regS a p1 <;> cases regS b p2 <;> cases regS c p3 <;> cases p4 <;> by_cases h : n = 0 <;> simp [h]

theorem right_facts {op a b c n : Int} (h : rightS op a b c n = true) :
    0 ≤ op ∧ op ≤ 20 ∧ 0 ≤ a ∧ a ≤ 31 ∧ 0 ≤ b ∧ b ≤ 31 ∧ 0 ≤ c ∧ c ≤ 31 ∧ -32768 ≤ n ∧ n ≤ 32767 ∧ (c = 0 ∨ n = 0) := by
  simp only [rightS, Bool.and_eq_true, Bool.or_eq_true, decide_eq_true_eq] at h
  obtain ⟨h5, ha, hb, hc, hn⟩ := h
  simp only [regS, Bool.and_eq_true, Bool.or_eq_true, decide_eq_true_eq] at ha hb hc
  have hop : 0 ≤ op ∧ op ≤ 20 := by
    unfold ofS at h5
    by_cases h0 : 0 ≤ op ∧ op ≤ 20
    · exact h0
    · rw [if_neg (by omega), if_neg (by omega), if_neg (by omega), if_neg (by omega), if_neg (by omega), if_neg (by omega)] at h5
      simp at h5
  have hnn : -32768 ≤ n ∧ n ≤ 32767 := by
    rcases hn with rfl | ⟨_, hn⟩
    · omega
    · unfold numS at hn
      split at hn
      · simp at hn; omega
      · split at hn
        · simp at hn; omega
        · split at hn
          · simp at hn; omega
          · simp at hn; omega
  have hcn : c = 0 ∨ n = 0 := by
    by_cases hz : n = 0
    · exact .inr hz
    · rcases hn with hn | ⟨hi, _⟩
      · exact absurd hn hz
      · rcases hc with hc | ⟨hc, _⟩
        · exact .inl hc
        · exfalso
          revert hi hc
          unfold ofS
          split <;> (try simp) <;> split <;> (try simp) <;> split <;> (try simp) <;> split <;> (try simp) <;> split <;> (try simp) <;> split <;> simp
  refine ⟨hop.1, hop.2, ?_, ?_, ?_, ?_, ?_, ?_, hnn.1, hnn.2, hcn⟩ <;> omega

theorem wraps_i64 (n : Int) (h₀ : 0 ≤ n) (h₁ : n < 2 ^ 62) : IntKind.i64.wrap n = n := by rw [IntKind.wrap_i64]; omega
theorem or_i64 (i : Nat) (x y : Int) (hx₀ : 0 ≤ x) (hx : x % 2 ^ i = 0) (hx₁ : x < 2 ^ 62) (hy₀ : 0 ≤ y) (hy : y < 2 ^ i) (hy₁ : y < 2 ^ 62) :
    Go.bits .or .i64 x y = x + y := bits_join .i64 62 (by decide) wraps_i64 i x y hx₀ hx hx₁ hy₀ hy hy₁
theorem and_31 (x : Int) (h₀ : 0 ≤ x) (h₁ : x < 2 ^ 62) : Go.bits .and .i64 x 31 = x % 32 := bits_mask .i64 62 (by decide) wraps_i64 5 (by decide) x h₀ h₁
theorem toNat_ofInt64 (x : Int) : ((BitVec.ofInt 64 x).toNat : Int) = x % 18446744073709551616 := by
  rw [BitVec.toNat_ofInt]; simp; omega
theorem and_65535 (x : Int) : Go.bits .and .i64 x 65535 = x % 65536 := by
  have e : (BitVec.ofInt 64 x &&& BitVec.ofInt 64 65535).toNat = (BitVec.ofInt 64 x).toNat % 65536 := by
    rw [BitVec.toNat_and, show (BitVec.ofInt 64 65535).toNat = 2 ^ 16 - 1 from by decide, Nat.and_two_pow_sub_one_eq_mod]
  have h := toNat_ofInt64 x
  unfold Go.bits
  show IntKind.i64.wrap (((BitVec.ofInt 64 x &&& BitVec.ofInt 64 65535).toNat : Nat) : Int) = _
  rw [e, wraps_i64 _ (by omega) (by omega)]
  omega

/-- The word of a right instruction. -/
def encS (op a b c n : Int) : Int := op * 67108864 + a * 2097152 + b * 65536 + c * 2048 + n % 65536
theorem enc_eq (k : Nat) (op a b c n : Int) : isa_Encode.f (k + 3) op a b c n = some (if rightS op a b c n = true then (encS op a b c n, true) else (0, false)) := by
  unfold isa_Encode.f
  rw [right_eq]
  simp only [Option.bind_some]
  by_cases h : rightS op a b c n = true
  · rw [if_pos h, if_pos h]
    obtain ⟨h1, h2, h3, h4, h5, h6, h7, h8, h9, h10, h11⟩ := right_facts h
    rw [and_65535]
    have w1 : wrap64 (op * 67108864) = op * 67108864 := by unfold wrap64; omega
    have w2 : wrap64 (a * 2097152) = a * 2097152 := by unfold wrap64; omega
    have w3 : wrap64 (b * 65536) = b * 65536 := by unfold wrap64; omega
    have w4 : wrap64 (c * 2048) = c * 2048 := by unfold wrap64; omega
    rw [w1, w2, w3, w4]
    rw [or_i64 26 (op * 67108864) (a * 2097152) (by omega) (by omega) (by omega) (by omega) (by omega) (by omega)]
    rw [or_i64 21 (op * 67108864 + a * 2097152) (b * 65536) (by omega) (by omega) (by omega) (by omega) (by omega) (by omega)]
    rw [or_i64 16 (op * 67108864 + a * 2097152 + b * 65536) (c * 2048) (by omega) (by omega) (by omega) (by omega) (by omega) (by omega)]
    rcases h11 with rfl | rfl
    · rw [or_i64 16 _ (n % 65536) (by omega) (by omega) (by omega) (by omega) (by omega) (by omega)]
      unfold encS; congr 2
    · rw [or_i64 11 _ (0 % 65536) (by omega) (by omega) (by omega) (by omega) (by omega) (by omega)]
      unfold encS; congr 2
  · rw [if_neg h, if_neg h]

/-- The number of the lowest 16 bits. -/
def extS (w : Int) : Int := (w + 32768) % 65536 - 32768
theorem extend_eq (w : Int) : word_Extend.f w 16 = some (extS w) := by
  unfold word_Extend.f
  rw [if_neg (by omega), if_neg (by omega), show wrap64 (32 - 16) = 16 from by decide +kernel, if_pos (by omega)]
  congr 1
  show wrap64 (IntKind.i32.wrap (wrap32 w * 2 ^ 16) / 2 ^ 16) = extS w
  rw [IntKind.wrap_i32]
  unfold wrap64 wrap32 extS
  omega

/-- The instruction of a word. -/
def decS (w : Int) : Int × Int × Int × Int × Int × Bool :=
  if w < 0 ∨ w ≥ 4294967296 then (0, 0, 0, 0, 0, false)
  else if (ofS (w / 67108864)).2.2.2.1 = true then
    if rightS (w / 67108864) (w / 2097152 % 32) (w / 65536 % 32) 0 (extS w) = true then (w / 67108864, w / 2097152 % 32, w / 65536 % 32, 0, extS w, true) else (0, 0, 0, 0, 0, false)
  else
    if rightS (w / 67108864) (w / 2097152 % 32) (w / 65536 % 32) (w / 2048 % 32) 0 = true ∧ w % 2048 = 0 then (w / 67108864, w / 2097152 % 32, w / 65536 % 32, w / 2048 % 32, 0, true) else (0, 0, 0, 0, 0, false)

theorem dec_eq (k : Nat) (w : Int) : isa_Decode.f (k + 4) w = some (decS w) := by
  unfold isa_Decode.f decS
  by_cases h0 : w < 0
  · rw [if_pos h0, if_pos (.inl h0)]
    simp only [isa_Decode.j0, if_true]
  · rw [if_neg h0]
    by_cases h1 : w ≥ 4294967296
    · rw [if_pos (.inr h1), decide_eq_true h1]
      simp only [isa_Decode.j0, if_true]
    · rw [if_neg (by omega), decide_eq_false h1]
      simp only [isa_Decode.j0, Bool.false_eq_true, if_false]
      rw [of_eq]
      simp only [Option.bind_some, extend_eq, enc_eq]
      rw [and_31 (w / 2097152) (by omega) (by omega), and_31 (w / 65536) (by omega) (by omega), and_31 (w / 2048) (by omega) (by omega)]
      by_cases hi : (ofS (w / 67108864)).2.2.2.1 = true
      · rw [if_pos hi, if_pos hi]
        by_cases hr : rightS (w / 67108864) (w / 2097152 % 32) (w / 65536 % 32) 0 (extS w) = true
        · have he : encS (w / 67108864) (w / 2097152 % 32) (w / 65536 % 32) 0 (extS w) = w := by unfold encS extS; omega
          rw [if_pos hr, if_pos hr]
          simp only [if_true, he]
        · rw [if_neg hr, if_neg hr]
          simp
      · rw [if_neg hi, if_neg hi]
        by_cases hr : rightS (w / 67108864) (w / 2097152 % 32) (w / 65536 % 32) (w / 2048 % 32) 0 = true
        · rw [if_pos hr]
          by_cases hz : w % 2048 = 0
          · have he : encS (w / 67108864) (w / 2097152 % 32) (w / 65536 % 32) (w / 2048 % 32) 0 = w := by unfold encS; omega
            have hb : rightS (w / 67108864) (w / 2097152 % 32) (w / 65536 % 32) (w / 2048 % 32) 0 = true ∧ w % 2048 = 0 := ⟨hr, hz⟩
            rw [if_pos hb]
            simp only [if_true, he]
          · have he : encS (w / 67108864) (w / 2097152 % 32) (w / 65536 % 32) (w / 2048 % 32) 0 ≠ w := by unfold encS; omega
            have hb : ¬ (rightS (w / 67108864) (w / 2097152 % 32) (w / 65536 % 32) (w / 2048 % 32) 0 = true ∧ w % 2048 = 0) := fun h => hz h.2
            rw [if_neg hb]
            simp only [if_true]
            rw [if_neg he]
        · have hb : ¬ (rightS (w / 67108864) (w / 2097152 % 32) (w / 65536 % 32) (w / 2048 % 32) 0 = true ∧ w % 2048 = 0) := fun h => hr h.1
          rw [if_neg hr, if_neg hb]
          simp

theorem dec_enc {op a b c n : Int} (h : rightS op a b c n = true) : decS (encS op a b c n) = (op, a, b, c, n, true) := by
  obtain ⟨h1, h2, h3, h4, h5, h6, h7, h8, h9, h10, h11⟩ := right_facts h
  have e1 : encS op a b c n / 67108864 = op := by unfold encS; omega
  have e2 : encS op a b c n / 2097152 % 32 = a := by unfold encS; omega
  have e3 : encS op a b c n / 65536 % 32 = b := by
    unfold encS
    rcases h11 with rfl | rfl <;> omega
  have e0 : 0 ≤ encS op a b c n ∧ encS op a b c n < 4294967296 := by unfold encS; omega
  unfold decS
  rw [if_neg (by omega), e1, e2, e3]
  by_cases hi : (ofS op).2.2.2.1 = true
  · have hc : c = 0 := by
      have hh := h
      simp only [rightS, regS, Bool.and_eq_true, Bool.or_eq_true, decide_eq_true_eq] at hh
      obtain ⟨_, _, _, hc, _⟩ := hh
      rcases hc with hc | ⟨hc, _⟩
      · exact hc
      · exfalso
        revert hi hc
        unfold ofS
        split <;> (try simp) <;> split <;> (try simp) <;> split <;> (try simp) <;> split <;> (try simp) <;> split <;> (try simp) <;> split <;> simp
    subst hc
    have en : extS (encS op a b 0 n) = n := by unfold extS encS; omega
    rw [if_pos hi, en, if_pos h]
  · have hn : n = 0 := by
      have hh := h
      simp only [rightS, Bool.and_eq_true, Bool.or_eq_true, decide_eq_true_eq] at hh
      obtain ⟨_, _, _, _, hn⟩ := hh
      rcases hn with hn | hn
      · exact hn
      · exact absurd hn.1 hi
    subst hn
    have ec : encS op a b c 0 / 2048 % 32 = c := by unfold encS; omega
    have ez : encS op a b c 0 % 2048 = 0 := by unfold encS; omega
    rw [if_neg hi, ec, ez, if_pos ⟨h, rfl⟩]

theorem awake_eq (k : Nat) : delayslotlaw02_awake.f (k + 4) = some true := by
  unfold delayslotlaw02_awake.f
  rw [enc_eq (k + 1), dec_eq, right_eq (k + 1)]
  have r1 : rightS 1 1 2 3 0 = true := by decide
  have r2 : decS 1409286144 = (0, 0, 0, 0, 0, false) := by decide
  have r3 : rightS 12 31 1 0 (-32768) = true := by decide
  have r4 : encS 1 1 2 3 0 = 69343232 := by decide
  rw [if_pos r1, r2, r3, r4]
  simp

theorem dec_cases {w : Int} (h0 : 0 ≤ w) (h1 : w ≤ 4294967295) :
    decS w = (0, 0, 0, 0, 0, false) ∨ ∃ a b c n, decS w = (w / 67108864, a, b, c, n, true) ∧ w / 67108864 ≤ 20 := by
  unfold decS
  rw [if_neg (by omega)]
  split
  · split
    · rename_i h2; have := right_facts h2; exact .inr ⟨_, _, _, _, rfl, by omega⟩
    · exact .inl rfl
  · split
    · rename_i h2; have := right_facts h2.1; exact .inr ⟨_, _, _, _, rfl, by omega⟩
    · exact .inl rfl


/-- The reference's shape of an operation. -/
def shapeS (op : Int) : Int :=
  if op = 0 then 0
  else if 1 ≤ op ∧ op ≤ 9 then 7
  else if op = 10 ∨ (12 ≤ op ∧ op ≤ 16) then 11
  else if op = 11 then 9
  else if op = 17 ∨ op = 18 ∨ op = 20 then 8
  else if op = 19 then 1
  else -1
theorem shape_eq (op : Int) : delayslotref02_shape.f op = some (shapeS op) := by
  by_cases h : 0 ≤ op ∧ op ≤ 20
  · rcases ops_all h.1 h.2 with rfl | rfl | rfl | rfl | rfl | rfl | rfl | rfl | rfl | rfl | rfl | rfl | rfl | rfl | rfl | rfl | rfl | rfl | rfl | rfl | rfl <;> rfl
  · unfold delayslotref02_shape.f shapeS
    rw [if_neg (show ¬ op = 0 by omega), if_neg (show ¬ (1 ≤ op ∧ op ≤ 9) by omega), if_neg (show ¬ (op = 10 ∨ (12 ≤ op ∧ op ≤ 16)) by omega), if_neg (show ¬ op = 11 by omega), if_neg (show ¬ (op = 17 ∨ op = 18 ∨ op = 20) by omega), if_neg (show ¬ op = 19 by omega)]
    by_cases h0 : op < 0
    · rw [if_pos h0]
    · rw [if_neg h0, if_pos (by omega)]

/-- Is a register wrong, by a shape's lowest bit? -/
def badS (s x : Int) : Bool := (decide (s % 2 = 0) && decide (x ≠ 0)) || (decide (x < 0) || decide (x > 31))
theorem l0_step (k : Nat) (s : Int) (a b c : Int) (i : Int) (op a' b' c' n : Int) (hs : 0 ≤ s ∧ s ≤ 100) (hi : i = 0 ∨ i = 1 ∨ i = 2) :
    delayslotref02_Right.l0 (k + 1) s [a, b, c] i op a' b' c' n = if badS s (rd [a, b, c] i) = true then some false else delayslotref02_Right.l0 k (s / 2) [a, b, c] (i + 1) op a' b' c' n := by
  have e1 : Int.tmod s 2 = s % 2 := Int.tmod_eq_emod_of_nonneg hs.1
  have e2 : wrap64 (Int.tdiv s 2) = s / 2 := by rw [Int.tdiv_eq_ediv_of_nonneg hs.1]; unfold wrap64; omega
  have e3 : wrap64 (i + 1) = i + 1 := by unfold wrap64; omega
  have e4 : i < (([a, b, c] : List Int).length : Int) := by simp; omega
  simp only [delayslotref02_Right.l0]
  rw [if_pos (show i < 3 by omega), e1, e2, e3]
  simp only [if_pos (show 0 ≤ i by omega), if_pos e4]
  generalize rd [a, b, c] i = x
  unfold badS
  by_cases h1 : s % 2 = 0 <;> by_cases h2 : x = 0 <;> by_cases h3 : x < 0 <;> by_cases h4 : x > 31 <;> simp [h1, h2, h3, h4] <;> omega

theorem j2_eq (k : Nat) (s from_ to_ op a b c n : Int) (x : Bool) (hx : x = decide (op = 17 ∨ op = 18)) (hf : from_ = if op = 14 then 0 else -32768) (ht : to_ = 32767) :
    delayslotref02_Right.j2 (k + 1) s from_ to_ x op a b c n = some (numS op n && (decide (s = 1) || decide (n = 0))) := by
  subst hf ht hx
  simp only [delayslotref02_Right.j2, decide_eq_true_eq]
  unfold numS
  have fin : ∀ (p q : Prop) [Decidable p] [Decidable q] (B : Bool), (B = decide (p ∧ q)) → (if p then if q then if s = 1 then some true else some (n == 0) else some false else some false) = some (B && (decide (s = 1) || decide (n = 0))) := by
    intro p q _ _ B hB
    subst hB
    by_cases hp : p <;> by_cases hq : q <;> by_cases h1 : s = 1 <;> simp [hp, hq, h1]
    exact Bool.eq_iff_iff.2 (by simp)
  by_cases h17 : op = 17 ∨ op = 18
  · rw [if_pos h17, if_pos h17, if_neg (show ¬ op = 20 by omega)]
    exact fin _ _ _ (by simp)
  · rw [if_neg h17, if_neg h17]
    by_cases h20 : op = 20
    · rw [if_pos h20, if_pos h20]; exact fin _ _ _ (by simp)
    · rw [if_neg h20, if_neg h20]
      by_cases h14 : op = 14
      · rw [if_pos h14, if_pos h14]; exact fin _ _ _ (by simp)
      · rw [if_neg h14, if_neg h14]; exact fin _ _ _ (by simp)

theorem tail_eq (k : Nat) (s : Int) (l : List Int) (op a b c n : Int) :
    delayslotref02_Right.l0 (k + 3) s l 3 op a b c n = some (numS op n && (decide (s = 1) || decide (n = 0))) := by
  simp only [delayslotref02_Right.l0, delayslotref02_Right.j1]
  rw [if_neg (show ¬ (3 : Int) < 3 by omega)]
  by_cases h14 : op = 14
  · rw [if_pos h14, if_neg (show ¬ op = 17 by omega)]
    exact j2_eq k s 0 32767 op a b c n _ (by rw [Bool.eq_iff_iff]; simp; omega) (by rw [if_pos h14]) rfl
  · rw [if_neg h14]
    by_cases h17 : op = 17
    · rw [if_pos h17]
      exact j2_eq k s (-32768) 32767 op a b c n _ (by rw [Bool.eq_iff_iff]; simp; omega) (by rw [if_neg h14]) rfl
    · rw [if_neg h17]
      exact j2_eq k s (-32768) 32767 op a b c n _ (by rw [Bool.eq_iff_iff]; simp; omega) (by rw [if_neg h14]) rfl

theorem refRight_eq (k : Nat) (op a b c n : Int) : delayslotref02_Right.f (k + 6) op a b c n = some (rightS op a b c n) := by
  unfold delayslotref02_Right.f
  rw [shape_eq]
  simp only [Option.bind_some]
  by_cases ho : 0 ≤ op ∧ op ≤ 20
  · have hs : 0 ≤ shapeS op ∧ shapeS op ≤ 11 := by
      unfold shapeS; split <;> (try omega) <;> split <;> (try omega) <;> split <;> (try omega) <;> split <;> (try omega) <;> split <;> (try omega) <;> split <;> omega
    rw [if_neg (by omega)]
    rw [l0_step (k + 5) _ a b c 0 op a b c n (by omega) (by omega), l0_step (k + 4) _ a b c (0 + 1) op a b c n (by omega) (by omega), l0_step (k + 3) _ a b c (0 + 1 + 1) op a b c n (by omega) (by omega)]
    rw [show (0 : Int) + 1 + 1 + 1 = 3 from rfl, tail_eq k]
    rw [show rd [a, b, c] 0 = a from rfl, show rd [a, b, c] (0 + 1) = b from rfl, show rd [a, b, c] (0 + 1 + 1) = c from rfl]
    have key : rightS op a b c n = (!badS (shapeS op) a && (!badS (shapeS op / 2) b && (!badS (shapeS op / 2 / 2) c && (numS op n && (decide (shapeS op / 2 / 2 / 2 = 1) || decide (n = 0)))))) := by
      have zero : numS op 0 = true := by unfold numS; split <;> (try split) <;> (try split) <;> simp
      unfold rightS
      have fin : ∀ (s : Int) (p : Bool × Bool × Bool × Bool × Bool), p.2.2.2.2 = true → p.1 = decide (s % 2 = 1) → p.2.1 = decide (s / 2 % 2 = 1) → p.2.2.1 = decide (s / 2 / 2 % 2 = 1) → p.2.2.2.1 = decide (s / 2 / 2 / 2 = 1) →
          (p.2.2.2.2 && (regS a p.1 && (regS b p.2.1 && (regS c p.2.2.1 && (decide (n = 0) || (p.2.2.2.1 && numS op n)))))) =
          (!badS s a && (!badS (s / 2) b && (!badS (s / 2 / 2) c && (numS op n && (decide (s / 2 / 2 / 2 = 1) || decide (n = 0)))))) := by
        intro s p h5 h1 h2 h3 h4
        rw [h5, h1, h2, h3, h4]
        have reg : ∀ t x : Int, regS x (decide (t % 2 = 1)) = !badS t x := by
          intro t x
          unfold regS badS
          rw [Bool.eq_iff_iff]
          simp only [Bool.or_eq_true, Bool.and_eq_true, decide_eq_true_eq, Bool.not_eq_true', Bool.or_eq_false_iff, Bool.and_eq_false_iff, decide_eq_false_iff_not]
          omega
        rw [reg, reg, reg]
        by_cases hz : n = 0
        · subst hz; rw [zero]; simp
        · simp [hz, Bool.and_comm]
      rcases ops_all ho.1 ho.2 with rfl | rfl | rfl | rfl | rfl | rfl | rfl | rfl | rfl | rfl | rfl | rfl | rfl | rfl | rfl | rfl | rfl | rfl | rfl | rfl | rfl <;> exact fin _ _ (by decide) (by decide) (by decide) (by decide) (by decide)
    rw [key]
    cases badS (shapeS op) a <;> cases badS (shapeS op / 2) b <;> cases badS (shapeS op / 2 / 2) c <;> simp
  · have hs : shapeS op = -1 := by
      unfold shapeS
      rw [if_neg (show ¬ op = 0 by omega), if_neg (show ¬ (1 ≤ op ∧ op ≤ 9) by omega), if_neg (show ¬ (op = 10 ∨ (12 ≤ op ∧ op ≤ 16)) by omega), if_neg (show ¬ op = 11 by omega), if_neg (show ¬ (op = 17 ∨ op = 18 ∨ op = 20) by omega), if_neg (show ¬ op = 19 by omega)]
    rw [hs, if_pos (by omega)]
    cases hh : rightS op a b c n
    · rfl
    · have := right_facts hh; omega
theorem refDec_eq (k : Nat) {w : Int} (hw : -9223372036854775808 ≤ w ∧ w ≤ 9223372036854775807) : delayslotref02_Decode.f (k + 7) w = some (decS w) := by
  unfold delayslotref02_Decode.f decS
  by_cases h0 : w < 0
  · rw [if_pos h0, if_pos (.inl h0)]
    simp only [delayslotref02_Decode.j0, if_true]
  · rw [if_neg h0]
    by_cases h1 : w ≥ 4294967296
    · rw [if_pos (.inr h1), decide_eq_true (show w > 4294967295 by omega)]
      simp only [delayslotref02_Decode.j0, if_true]
    · rw [if_neg (show ¬ (w < 0 ∨ w ≥ 4294967296) by omega), decide_eq_false (show ¬ w > 4294967295 by omega)]
      simp only [delayslotref02_Decode.j0, Bool.false_eq_true, if_false]
      have d1 : wrap64 (Int.tdiv w 67108864) = w / 67108864 := by rw [Int.tdiv_eq_ediv_of_nonneg (by omega)]; unfold wrap64; omega
      have d2 : Int.tmod (wrap64 (Int.tdiv w 2097152)) 32 = w / 2097152 % 32 := by
        have e : wrap64 (Int.tdiv w 2097152) = w / 2097152 := by rw [Int.tdiv_eq_ediv_of_nonneg (by omega)]; unfold wrap64; omega
        rw [e, Int.tmod_eq_emod_of_nonneg (by omega)]
      have d3 : Int.tmod (wrap64 (Int.tdiv w 65536)) 32 = w / 65536 % 32 := by
        have e : wrap64 (Int.tdiv w 65536) = w / 65536 := by rw [Int.tdiv_eq_ediv_of_nonneg (by omega)]; unfold wrap64; omega
        rw [e, Int.tmod_eq_emod_of_nonneg (by omega)]
      have d4 : Int.tmod (wrap64 (Int.tdiv w 2048)) 32 = w / 2048 % 32 := by
        have e : wrap64 (Int.tdiv w 2048) = w / 2048 := by rw [Int.tdiv_eq_ediv_of_nonneg (by omega)]; unfold wrap64; omega
        rw [e, Int.tmod_eq_emod_of_nonneg (by omega)]
      have d5 : Int.tmod w 65536 = w % 65536 := Int.tmod_eq_emod_of_nonneg (by omega)
      have d6 : Int.tmod w 2048 = w % 2048 := Int.tmod_eq_emod_of_nonneg (by omega)
      have d7 : wrap64 (w % 65536 - 65536) = w % 65536 - 65536 := by unfold wrap64; omega
      rw [d1, d2, d3, d4, d5, d6, d7, shape_eq]
      simp only [Option.bind_some, refRight_eq]
      have hq : 0 ≤ w / 67108864 ∧ w / 67108864 ≤ 63 := by omega
      by_cases ho : w / 67108864 ≤ 20
      · have hs : (if shapeS (w / 67108864) < 0 then (0 : Int) else if shapeS (w / 67108864) ≥ 8 then 1 else 2) = if (ofS (w / 67108864)).2.2.2.1 = true then 1 else 2 := by
          rcases ops_all hq.1 ho with e | e | e | e | e | e | e | e | e | e | e | e | e | e | e | e | e | e | e | e | e <;> rw [e] <;> decide
        have hn : ¬ shapeS (w / 67108864) < 0 := by
          intro hh; rw [if_pos hh] at hs; split at hs <;> omega
        rw [if_neg hn] at hs ⊢
        by_cases hi : (ofS (w / 67108864)).2.2.2.1 = true
        · rw [if_pos hi] at hs
          have h8 : shapeS (w / 67108864) ≥ 8 := by
            by_cases h : shapeS (w / 67108864) ≥ 8
            · exact h
            · rw [if_neg h] at hs; omega
          rw [if_pos h8, if_pos hi]
          by_cases hg : w % 65536 > 32767
          · have ex : extS w = w % 65536 - 65536 := by unfold extS; omega
            rw [if_pos hg, ex]
            split <;> rfl
          · have ex : extS w = w % 65536 := by unfold extS; omega
            rw [if_neg hg, ex]
            split <;> rfl
        · rw [if_neg hi] at hs
          have h8 : ¬ shapeS (w / 67108864) ≥ 8 := by
            intro h; rw [if_pos h] at hs; omega
          rw [if_neg h8, if_neg hi]
          by_cases hz : w % 2048 = 0
          · rw [if_pos hz]
            cases hr : rightS (w / 67108864) (w / 2097152 % 32) (w / 65536 % 32) (w / 2048 % 32) 0 <;> simp [hz]
          · rw [if_neg hz]
            cases hr : rightS (w / 67108864) (w / 2097152 % 32) (w / 65536 % 32) (w / 2048 % 32) 0 <;> simp [hz]
      · have hs : shapeS (w / 67108864) = -1 := by
          unfold shapeS
          rw [if_neg (by omega), if_neg (by omega), if_neg (by omega), if_neg (by omega), if_neg (by omega), if_neg (by omega)]
        rw [hs, if_pos (by omega)]
        have hr : ∀ a b c n, rightS (w / 67108864) a b c n = false := by
          intro a b c n
          cases hh : rightS (w / 67108864) a b c n
          · rfl
          · have := right_facts hh; omega
        rw [hr, hr]
        simp

theorem dec_right (w : Int) : (decS w).2.2.2.2.2 = true → rightS (decS w).1 (decS w).2.1 (decS w).2.2.1 (decS w).2.2.2.1 (decS w).2.2.2.2.1 = true ∧ encS (decS w).1 (decS w).2.1 (decS w).2.2.1 (decS w).2.2.2.1 (decS w).2.2.2.2.1 = w := by
  intro h
  unfold decS at h ⊢
  by_cases h0 : w < 0 ∨ w ≥ 4294967296
  · rw [if_pos h0] at h; simp at h
  · rw [if_neg h0] at h ⊢
    by_cases hi : (ofS (w / 67108864)).2.2.2.1 = true
    · rw [if_pos hi] at h ⊢
      by_cases hr : rightS (w / 67108864) (w / 2097152 % 32) (w / 65536 % 32) 0 (extS w) = true
      · rw [if_pos hr]; exact ⟨hr, by show encS (w / 67108864) (w / 2097152 % 32) (w / 65536 % 32) 0 (extS w) = w; unfold encS extS; omega⟩
      · rw [if_neg hr] at h; simp at h
    · rw [if_neg hi] at h ⊢
      by_cases hr : rightS (w / 67108864) (w / 2097152 % 32) (w / 65536 % 32) (w / 2048 % 32) 0 = true ∧ w % 2048 = 0
      · rw [if_pos hr]; exact ⟨hr.1, by show encS (w / 67108864) (w / 2097152 % 32) (w / 65536 % 32) (w / 2048 % 32) 0 = w; unfold encS; omega⟩
      · rw [if_neg hr] at h; simp at h

theorem IsaDecodes_all : delayslotlaw02_IsaDecodes.Pure := by
  intro w hw
  have bw : -9223372036854775808 ≤ w ∧ w ≤ 9223372036854775807 := by simpa [Lit.wf, IntKind.min, IntKind.max, IntKind.signed, IntKind.bits] using hw
  refine ⟨8, ?_⟩
  unfold delayslotlaw02_IsaDecodes.f
  rw [dec_eq 4, refDec_eq 1 bw]
  have hd := dec_right w
  generalize decS w = d at hd
  obtain ⟨op, a, b, c, n, ok⟩ := d
  dsimp only at hd
  simp only [Option.bind_some, beq_self_eq_true, Bool.not_true, Bool.or_false, Bool.false_eq_true, if_false, bne_self_eq_false]
  simp only [delayslotlaw02_IsaDecodes.j0, Bool.false_eq_true, if_false]
  rw [enc_eq 4, awake_eq 3]
  cases ok
  · simp
  · obtain ⟨h1, h2⟩ := hd rfl
    rw [if_pos h1]
    simp [h2]

end Go.Proofs.Ytnodlolicndopaa.Pure.Decodes
namespace Go.Proofs.Ytnodlolicndopaa.Pure
theorem IsaDecodes : PIsaDecodes.delayslotlaw02_IsaDecodes.Pure := Decodes.IsaDecodes_all
end Go.Proofs.Ytnodlolicndopaa.Pure

/- The pure laws of the callees of IsaThree and IsaNumbers, and their contracts. -/
import Derived.Test.YtnodlolicndopaaPIsaNumbersx2
import Derived.Test.YtnodlolicndopaaRr
namespace Go.Proofs.Ytnodlolicndopaa.Pure.Numbers
open Go Go.RowKit Go.Proofs.Ytnodlolicndopaa.PIsaNumbers Go.Proofs.YtnodlolicndopaaW.PrintWords Go.Proofs.YtnodlolicndopaaW.PrintLast Go.Proofs.YtnodlolicndopaaW.PrintMore

/-- The parts that an operation has: a, b, c, a number; and whether it is one. -/
def ofS (op : Int) : Bool × Bool × Bool × Bool × Bool :=
  if op = 0 then (false, false, false, false, true)
  else if 1 ≤ op ∧ op ≤ 9 then (true, true, true, false, true)
  else if op = 10 ∨ (12 ≤ op ∧ op ≤ 16) then (true, true, false, true, true)
  else if op = 11 then (true, false, false, true, true)
  else if op = 17 ∨ op = 18 ∨ op = 20 then (false, false, false, true, true)
  else if op = 19 then (true, false, false, false, true)
  else (false, false, false, false, false)

theorem ops_all {op : Int} (h0 : 0 ≤ op) (h1 : op ≤ 20) : op = 0 ∨ op = 1 ∨ op = 2 ∨ op = 3 ∨ op = 4 ∨ op = 5 ∨ op = 6 ∨ op = 7 ∨ op = 8 ∨ op = 9 ∨ op = 10 ∨ op = 11 ∨ op = 12 ∨ op = 13 ∨ op = 14 ∨ op = 15 ∨ op = 16 ∨ op = 17 ∨ op = 18 ∨ op = 19 ∨ op = 20 := by omega

theorem of_eq (k : Nat) (op : Int) : isa_of.f (k + 3) op = some (ofS op) := by
  by_cases h : 0 ≤ op ∧ op ≤ 20
  · rcases ops_all h.1 h.2 with rfl | rfl | rfl | rfl | rfl | rfl | rfl | rfl | rfl | rfl | rfl | rfl | rfl | rfl | rfl | rfl | rfl | rfl | rfl | rfl | rfl <;> rfl
  · have hne : ∀ c : Int, 0 ≤ c → c ≤ 20 → op ≠ c := by intro c _ _ _; omega
    have n0 := hne 0 (by omega) (by omega)
    have n1 := hne 1 (by omega) (by omega)
    have n2 := hne 2 (by omega) (by omega)
    have n3 := hne 3 (by omega) (by omega)
    have n4 := hne 4 (by omega) (by omega)
    have n5 := hne 5 (by omega) (by omega)
    have n6 := hne 6 (by omega) (by omega)
    have n7 := hne 7 (by omega) (by omega)
    have n8 := hne 8 (by omega) (by omega)
    have n9 := hne 9 (by omega) (by omega)
    have n10 := hne 10 (by omega) (by omega)
    have n11 := hne 11 (by omega) (by omega)
    have n12 := hne 12 (by omega) (by omega)
    have n13 := hne 13 (by omega) (by omega)
    have n14 := hne 14 (by omega) (by omega)
    have n15 := hne 15 (by omega) (by omega)
    have n16 := hne 16 (by omega) (by omega)
    have n17 := hne 17 (by omega) (by omega)
    have n18 := hne 18 (by omega) (by omega)
    have n19 := hne 19 (by omega) (by omega)
    have n20 := hne 20 (by omega) (by omega)
    have e : ofS op = (false, false, false, false, false) := by
      unfold ofS
      rw [if_neg n0, if_neg (by omega), if_neg (by omega), if_neg n11, if_neg (by omega), if_neg n19]
    rw [e]
    simp only [isa_of.f, isa_of.j0, isa_of.j1, isa_of.j2, n0, n1, n2, n3, n4, n5, n6, n7, n8, n9, n10, n11, n12, n13, n14, n15, n16, n17, n18, n19, n20, if_false, beq_iff_eq]

/-- May a register be n? -/
def regS (n : Int) (had : Bool) : Bool := decide (n = 0) || (had && (decide (0 < n) && decide (n < 32)))
theorem reg_eq (n : Int) (had : Bool) : isa_reg.f n had = some (regS n had) := by
  unfold isa_reg.f regS
  cases had <;> by_cases h : n = 0 <;> by_cases h' : n > 0 <;> simp [h, h'] <;> omega

/-- May the number be n? -/
def numS (op n : Int) : Bool :=
  if op = 17 ∨ op = 18 then decide (0 ≤ n ∧ n ≤ 4096)
  else if op = 20 then decide (0 ≤ n ∧ n ≤ 2)
  else if op = 14 then decide (0 ≤ n ∧ n ≤ 32767)
  else decide (-32768 ≤ n ∧ n ≤ 32767)

theorem shl_15 : shl .i64 1 (wrap64 (16 - 1)) = 32768 := by decide +kernel
theorem wrap_15 : wrap64 (16 - 1) = 15 := by decide +kernel
theorem fits_eq (n : Int) : word_Fits.f n 16 = some (decide (-32768 ≤ n ∧ n ≤ 32767)) := by
  unfold word_Fits.f
  rw [shl_15, wrap_15, show wrap64 (-32768) = -32768 from by decide +kernel]
  rw [if_neg (by omega), if_neg (by omega), if_pos (by omega)]
  by_cases h : n ≥ -32768
  · rw [if_pos h]; congr 1; rw [Bool.eq_iff_iff]; simp; omega
  · rw [if_neg h]; congr 1; symm; simp; omega

theorem number_eq (k : Nat) (op n : Int) : isa_number.f (k + 1) op n = some (numS op n) := by
  unfold isa_number.f numS
  by_cases h17 : op = 17
  · subst h17
    simp only [isa_number.j0, if_true, beq_self_eq_true, true_or]
    by_cases h : n ≥ 0
    · rw [if_pos h]; congr 1; rw [Bool.eq_iff_iff]; simp; omega
    · rw [if_neg h]; congr 1; symm; simp; omega
  · rw [if_neg h17]
    by_cases h18 : op = 18
    · subst h18
      simp only [isa_number.j0, if_true, beq_self_eq_true, or_true]
      by_cases h : n ≥ 0
      · rw [if_pos h]; congr 1; rw [Bool.eq_iff_iff]; simp; omega
      · rw [if_neg h]; congr 1; symm; simp; omega
    · have hb : (op == 18) = false := beq_eq_false_iff_ne.mpr h18
      rw [hb]
      simp only [isa_number.j0, if_false, Bool.false_eq_true]
      rw [if_neg (show ¬ (op = 17 ∨ op = 18) by omega)]
      by_cases h20 : op = 20
      · rw [if_pos h20, if_pos h20]
        by_cases h : n ≥ 0
        · rw [if_pos h]; congr 1; rw [Bool.eq_iff_iff]; simp; omega
        · rw [if_neg h]; congr 1; symm; simp; omega
      · rw [if_neg h20, if_neg h20]
        by_cases h14 : op = 14
        · rw [if_pos h14, if_pos h14]
          by_cases h : n ≥ 0
          · rw [if_pos h, fits_eq]; simp only [Option.bind_some]; congr 1; rw [Bool.eq_iff_iff]; simp; omega
          · rw [if_neg h]; congr 1; symm; simp; omega
        · rw [if_neg h14, if_neg h14, fits_eq]; rfl

/-- Is an instruction right? -/
def rightS (op a b c n : Int) : Bool :=
  (ofS op).2.2.2.2 && (regS a (ofS op).1 && (regS b (ofS op).2.1 && (regS c (ofS op).2.2.1 && (decide (n = 0) || ((ofS op).2.2.2.1 && numS op n)))))

theorem right_eq (k : Nat) (op a b c n : Int) : isa_Right.f (k + 3) op a b c n = some (rightS op a b c n) := by
  unfold isa_Right.f rightS
  rw [of_eq]
  simp only [Option.bind_some, reg_eq, number_eq (k + 2)]
  generalize ofS op = p
  obtain ⟨p1, p2, p3, p4, p5⟩ := p
  dsimp only
  cases p5 <;> cases regS a p1 <;> cases regS b p2 <;> cases regS c p3 <;> cases p4 <;> by_cases h : n = 0 <;> simp [h]

theorem right_facts {op a b c n : Int} (h : rightS op a b c n = true) :
    0 ≤ op ∧ op ≤ 20 ∧ 0 ≤ a ∧ a ≤ 31 ∧ 0 ≤ b ∧ b ≤ 31 ∧ 0 ≤ c ∧ c ≤ 31 ∧ -32768 ≤ n ∧ n ≤ 32767 ∧ (c = 0 ∨ n = 0) := by
  simp only [rightS, Bool.and_eq_true, Bool.or_eq_true, decide_eq_true_eq] at h
  obtain ⟨h5, ha, hb, hc, hn⟩ := h
  simp only [regS, Bool.and_eq_true, Bool.or_eq_true, decide_eq_true_eq] at ha hb hc
  have hop : 0 ≤ op ∧ op ≤ 20 := by
    unfold ofS at h5
    by_cases h0 : 0 ≤ op ∧ op ≤ 20
    · exact h0
    · rw [if_neg (by omega), if_neg (by omega), if_neg (by omega), if_neg (by omega), if_neg (by omega), if_neg (by omega)] at h5
      simp at h5
  have hnn : -32768 ≤ n ∧ n ≤ 32767 := by
    rcases hn with rfl | ⟨_, hn⟩
    · omega
    · unfold numS at hn
      split at hn
      · simp at hn; omega
      · split at hn
        · simp at hn; omega
        · split at hn
          · simp at hn; omega
          · simp at hn; omega
  have hcn : c = 0 ∨ n = 0 := by
    by_cases hz : n = 0
    · exact .inr hz
    · rcases hn with hn | ⟨hi, _⟩
      · exact absurd hn hz
      · rcases hc with hc | ⟨hc, _⟩
        · exact .inl hc
        · exfalso
          revert hi hc
          unfold ofS
          split <;> (try simp) <;> split <;> (try simp) <;> split <;> (try simp) <;> split <;> (try simp) <;> split <;> (try simp) <;> split <;> simp
  refine ⟨hop.1, hop.2, ?_, ?_, ?_, ?_, ?_, ?_, hnn.1, hnn.2, hcn⟩ <;> omega

theorem wraps_i64 (n : Int) (h₀ : 0 ≤ n) (h₁ : n < 2 ^ 62) : IntKind.i64.wrap n = n := by rw [IntKind.wrap_i64]; omega
theorem or_i64 (i : Nat) (x y : Int) (hx₀ : 0 ≤ x) (hx : x % 2 ^ i = 0) (hx₁ : x < 2 ^ 62) (hy₀ : 0 ≤ y) (hy : y < 2 ^ i) (hy₁ : y < 2 ^ 62) :
    Go.bits .or .i64 x y = x + y := bits_join .i64 62 (by decide) wraps_i64 i x y hx₀ hx hx₁ hy₀ hy hy₁
theorem and_31 (x : Int) (h₀ : 0 ≤ x) (h₁ : x < 2 ^ 62) : Go.bits .and .i64 x 31 = x % 32 := bits_mask .i64 62 (by decide) wraps_i64 5 (by decide) x h₀ h₁
theorem toNat_ofInt64 (x : Int) : ((BitVec.ofInt 64 x).toNat : Int) = x % 18446744073709551616 := by
  rw [BitVec.toNat_ofInt]; simp; omega
theorem and_65535 (x : Int) : Go.bits .and .i64 x 65535 = x % 65536 := by
  have e : (BitVec.ofInt 64 x &&& BitVec.ofInt 64 65535).toNat = (BitVec.ofInt 64 x).toNat % 65536 := by
    rw [BitVec.toNat_and, show (BitVec.ofInt 64 65535).toNat = 2 ^ 16 - 1 from by decide, Nat.and_two_pow_sub_one_eq_mod]
  have h := toNat_ofInt64 x
  unfold Go.bits
  show IntKind.i64.wrap (((BitVec.ofInt 64 x &&& BitVec.ofInt 64 65535).toNat : Nat) : Int) = _
  rw [e, wraps_i64 _ (by omega) (by omega)]
  omega

/-- The word of a right instruction. -/
def encS (op a b c n : Int) : Int := op * 67108864 + a * 2097152 + b * 65536 + c * 2048 + n % 65536
theorem enc_eq (k : Nat) (op a b c n : Int) : isa_Encode.f (k + 3) op a b c n = some (if rightS op a b c n = true then (encS op a b c n, true) else (0, false)) := by
  unfold isa_Encode.f
  rw [right_eq]
  simp only [Option.bind_some]
  by_cases h : rightS op a b c n = true
  · rw [if_pos h, if_pos h]
    obtain ⟨h1, h2, h3, h4, h5, h6, h7, h8, h9, h10, h11⟩ := right_facts h
    rw [and_65535]
    have w1 : wrap64 (op * 67108864) = op * 67108864 := by unfold wrap64; omega
    have w2 : wrap64 (a * 2097152) = a * 2097152 := by unfold wrap64; omega
    have w3 : wrap64 (b * 65536) = b * 65536 := by unfold wrap64; omega
    have w4 : wrap64 (c * 2048) = c * 2048 := by unfold wrap64; omega
    rw [w1, w2, w3, w4]
    rw [or_i64 26 (op * 67108864) (a * 2097152) (by omega) (by omega) (by omega) (by omega) (by omega) (by omega)]
    rw [or_i64 21 (op * 67108864 + a * 2097152) (b * 65536) (by omega) (by omega) (by omega) (by omega) (by omega) (by omega)]
    rw [or_i64 16 (op * 67108864 + a * 2097152 + b * 65536) (c * 2048) (by omega) (by omega) (by omega) (by omega) (by omega) (by omega)]
    rcases h11 with rfl | rfl
    · rw [or_i64 16 _ (n % 65536) (by omega) (by omega) (by omega) (by omega) (by omega) (by omega)]
      unfold encS; congr 2
    · rw [or_i64 11 _ (0 % 65536) (by omega) (by omega) (by omega) (by omega) (by omega) (by omega)]
      unfold encS; congr 2
  · rw [if_neg h, if_neg h]

/-- The number of the lowest 16 bits. -/
def extS (w : Int) : Int := (w + 32768) % 65536 - 32768
theorem extend_eq (w : Int) : word_Extend.f w 16 = some (extS w) := by
  unfold word_Extend.f
  rw [if_neg (by omega), if_neg (by omega), show wrap64 (32 - 16) = 16 from by decide +kernel, if_pos (by omega)]
  congr 1
  show wrap64 (IntKind.i32.wrap (wrap32 w * 2 ^ 16) / 2 ^ 16) = extS w
  rw [IntKind.wrap_i32]
  unfold wrap64 wrap32 extS
  omega

/-- The instruction of a word. -/
def decS (w : Int) : Int × Int × Int × Int × Int × Bool :=
  if w < 0 ∨ w ≥ 4294967296 then (0, 0, 0, 0, 0, false)
  else if (ofS (w / 67108864)).2.2.2.1 = true then
    if rightS (w / 67108864) (w / 2097152 % 32) (w / 65536 % 32) 0 (extS w) = true then (w / 67108864, w / 2097152 % 32, w / 65536 % 32, 0, extS w, true) else (0, 0, 0, 0, 0, false)
  else
    if rightS (w / 67108864) (w / 2097152 % 32) (w / 65536 % 32) (w / 2048 % 32) 0 = true ∧ w % 2048 = 0 then (w / 67108864, w / 2097152 % 32, w / 65536 % 32, w / 2048 % 32, 0, true) else (0, 0, 0, 0, 0, false)

theorem dec_eq (k : Nat) (w : Int) : isa_Decode.f (k + 4) w = some (decS w) := by
  unfold isa_Decode.f decS
  by_cases h0 : w < 0
  · rw [if_pos h0, if_pos (.inl h0)]
    simp only [isa_Decode.j0, if_true]
  · rw [if_neg h0]
    by_cases h1 : w ≥ 4294967296
    · rw [if_pos (.inr h1), decide_eq_true h1]
      simp only [isa_Decode.j0, if_true]
    · rw [if_neg (by omega), decide_eq_false h1]
      simp only [isa_Decode.j0, Bool.false_eq_true, if_false]
      rw [of_eq]
      simp only [Option.bind_some, extend_eq, enc_eq]
      rw [and_31 (w / 2097152) (by omega) (by omega), and_31 (w / 65536) (by omega) (by omega), and_31 (w / 2048) (by omega) (by omega)]
      by_cases hi : (ofS (w / 67108864)).2.2.2.1 = true
      · rw [if_pos hi, if_pos hi]
        by_cases hr : rightS (w / 67108864) (w / 2097152 % 32) (w / 65536 % 32) 0 (extS w) = true
        · have he : encS (w / 67108864) (w / 2097152 % 32) (w / 65536 % 32) 0 (extS w) = w := by unfold encS extS; omega
          rw [if_pos hr, if_pos hr]
          simp only [if_true, he]
        · rw [if_neg hr, if_neg hr]
          simp
      · rw [if_neg hi, if_neg hi]
        by_cases hr : rightS (w / 67108864) (w / 2097152 % 32) (w / 65536 % 32) (w / 2048 % 32) 0 = true
        · rw [if_pos hr]
          by_cases hz : w % 2048 = 0
          · have he : encS (w / 67108864) (w / 2097152 % 32) (w / 65536 % 32) (w / 2048 % 32) 0 = w := by unfold encS; omega
            have hb : rightS (w / 67108864) (w / 2097152 % 32) (w / 65536 % 32) (w / 2048 % 32) 0 = true ∧ w % 2048 = 0 := ⟨hr, hz⟩
            rw [if_pos hb]
            simp only [if_true, he]
          · have he : encS (w / 67108864) (w / 2097152 % 32) (w / 65536 % 32) (w / 2048 % 32) 0 ≠ w := by unfold encS; omega
            have hb : ¬ (rightS (w / 67108864) (w / 2097152 % 32) (w / 65536 % 32) (w / 2048 % 32) 0 = true ∧ w % 2048 = 0) := fun h => hz h.2
            rw [if_neg hb]
            simp only [if_true]
            rw [if_neg he]
        · have hb : ¬ (rightS (w / 67108864) (w / 2097152 % 32) (w / 65536 % 32) (w / 2048 % 32) 0 = true ∧ w % 2048 = 0) := fun h => hr h.1
          rw [if_neg hr, if_neg hb]
          simp

theorem dec_enc {op a b c n : Int} (h : rightS op a b c n = true) : decS (encS op a b c n) = (op, a, b, c, n, true) := by
  obtain ⟨h1, h2, h3, h4, h5, h6, h7, h8, h9, h10, h11⟩ := right_facts h
  have e1 : encS op a b c n / 67108864 = op := by unfold encS; omega
  have e2 : encS op a b c n / 2097152 % 32 = a := by unfold encS; omega
  have e3 : encS op a b c n / 65536 % 32 = b := by
    unfold encS
    rcases h11 with rfl | rfl <;> omega
  have e0 : 0 ≤ encS op a b c n ∧ encS op a b c n < 4294967296 := by unfold encS; omega
  unfold decS
  rw [if_neg (by omega), e1, e2, e3]
  by_cases hi : (ofS op).2.2.2.1 = true
  · have hc : c = 0 := by
      have hh := h
      simp only [rightS, regS, Bool.and_eq_true, Bool.or_eq_true, decide_eq_true_eq] at hh
      obtain ⟨_, _, _, hc, _⟩ := hh
      rcases hc with hc | ⟨hc, _⟩
      · exact hc
      · exfalso
        revert hi hc
        unfold ofS
        split <;> (try simp) <;> split <;> (try simp) <;> split <;> (try simp) <;> split <;> (try simp) <;> split <;> (try simp) <;> split <;> simp
    subst hc
    have en : extS (encS op a b 0 n) = n := by unfold extS encS; omega
    rw [if_pos hi, en, if_pos h]
  · have hn : n = 0 := by
      have hh := h
      simp only [rightS, Bool.and_eq_true, Bool.or_eq_true, decide_eq_true_eq] at hh
      obtain ⟨_, _, _, _, hn⟩ := hh
      rcases hn with hn | hn
      · exact hn
      · exact absurd hn.1 hi
    subst hn
    have ec : encS op a b c 0 / 2048 % 32 = c := by unfold encS; omega
    have ez : encS op a b c 0 % 2048 = 0 := by unfold encS; omega
    rw [if_neg hi, ec, ez, if_pos ⟨h, rfl⟩]

theorem awake_eq (k : Nat) : delayslotlaw02_awake.f (k + 4) = some true := by
  unfold delayslotlaw02_awake.f
  rw [enc_eq (k + 1), dec_eq, right_eq (k + 1)]
  have r1 : rightS 1 1 2 3 0 = true := by decide
  have r2 : decS 1409286144 = (0, 0, 0, 0, 0, false) := by decide
  have r3 : rightS 12 31 1 0 (-32768) = true := by decide
  have r4 : encS 1 1 2 3 0 = 69343232 := by decide
  rw [if_pos r1, r2, r3, r4]
  simp

theorem dec_cases {w : Int} (h0 : 0 ≤ w) (h1 : w ≤ 4294967295) :
    decS w = (0, 0, 0, 0, 0, false) ∨ ∃ a b c n, decS w = (w / 67108864, a, b, c, n, true) ∧ w / 67108864 ≤ 20 := by
  unfold decS
  rw [if_neg (by omega)]
  split
  · split
    · rename_i h2; have := right_facts h2; exact .inr ⟨_, _, _, _, rfl, by omega⟩
    · exact .inl rfl
  · split
    · rename_i h2; have := right_facts h2.1; exact .inr ⟨_, _, _, _, rfl, by omega⟩
    · exact .inl rfl

end Go.Proofs.Ytnodlolicndopaa.Pure.Numbers
namespace Go.Proofs.Ytnodlolicndopaa
open Go Go.Sx Go.Sx.Chunk Go.RowKit
open Go.Proofs.Ytnodlolicndopaa.Pure.Numbers Go.Proofs.Ytnodlolicndopaa.PIsaNumbers
/-- A contract of the printed kind. -/
theorem fn_of {f : FuncId} {args : List Value} {v : Value} (hc : Called Try.prog f) (h : ∀ w, Calls Try.prog f args.toArray w fun e w' => e = .returned v ∧ Below w.heap.size w w') : FnC (α := Unit) Try.prog f args [] [] (fun _ => v) (fun _ => []) (fun _ => True) :=
  ⟨hc, fun w hw => (h w).mono fun e w' hr => ⟨(), hr.1, ⟨⟨hr.2.os, hr.2.tape, hr.2.output, hr.2.size, fun k hk _ => hr.2.block k hk⟩, trivial⟩, trivial⟩⟩
theorem rightC (op a b c n : Int) : FnC (α := Unit) Try.prog 11 [.agg #[.int .i64 op, .int .i64 a, .int .i64 b, .int .i64 c, .int .i64 n]] [] [] (fun _ => .bool (rightS op a b c n)) (fun _ => []) (fun _ => True) :=
  fn_of ⟨Try.f11, _, Try.func11, rfl, rfl⟩ (fun w => isa_Right.calls 3 op a b c n _ w (right_eq 0 op a b c n))
theorem encC (op a b c n : Int) (h : rightS op a b c n = true) : FnC (α := Unit) Try.prog 9 [.agg #[.int .i64 op, .int .i64 a, .int .i64 b, .int .i64 c, .int .i64 n]] [] [] (fun _ => .tuple #[.int .i64 (encS op a b c n), .bool true]) (fun _ => []) (fun _ => True) :=
  fn_of ⟨Try.f9, _, Try.func9, rfl, rfl⟩ (fun w => isa_Encode.calls 3 op a b c n _ _ w (by rw [enc_eq 0, if_pos h]))
theorem awakeC : FnC (α := Unit) Try.prog 12 [] [] [] (fun _ => .bool true) (fun _ => []) (fun _ => True) :=
  fn_of ⟨Try.f12, _, Try.func12, rfl, rfl⟩ (fun w => delayslotlaw02_awake.calls 4 _ w (awake_eq 0))
end Go.Proofs.Ytnodlolicndopaa

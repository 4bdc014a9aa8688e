/- Instructions as words: Encode and Decode, the program's and the reference's. -/
import Derived.Test.YtgmegfmabkkaoaaOb4
import Derived.Lib.SmallJoins
namespace Go.Proofs.Ytgmegfmabkkaoaa
open Go Go.Sx Go.Sx.Chunk
open Go.Joins
set_option linter.unusedVariables false
set_option linter.unusedSimpArgs false

def inD : In := ⟨0, 0, 0, 0, 0⟩
/-- The word of a right instruction. -/
def encF (i : In) : Int := i.op * 67108864 + i.a * 2097152 + i.b * 65536 + i.c * 2048 + i.imm % 65536
theorem good_parts {i : In} (h : goodI i = true) : 0 ≤ i.op ∧ i.op ≤ 20 ∧ 0 ≤ i.a ∧ i.a ≤ 31 ∧ 0 ≤ i.b ∧ i.b ≤ 31 ∧ 0 ≤ i.c ∧ i.c ≤ 31 ∧ -32768 ≤ i.imm ∧ i.imm ≤ 32767 ∧ (i.c = 0 ∨ i.imm = 0) ∧ (hasI i.op = true → i.c = 0) ∧ (hasI i.op = false → i.imm = 0) := by
  unfold goodI at h
  simp only [Bool.and_eq_true, Bool.or_eq_true, decide_eq_true_eq] at h
  obtain ⟨⟨⟨⟨ho, ha⟩, hb⟩, hc⟩, hi⟩ := h
  have ho' : 0 ≤ i.op ∧ i.op ≤ 20 := by unfold okO at ho; simpa using ho
  have hr : ∀ (n : Int) (had : Bool), regI n had = true → 0 ≤ n ∧ n ≤ 31 ∧ (had = false → n = 0) := fun n had h => by
    unfold regI at h
    simp only [Bool.or_eq_true, Bool.and_eq_true, decide_eq_true_eq] at h
    rcases h with h | ⟨h1, h2⟩
    · subst h; exact ⟨by omega, by omega, fun _ => rfl⟩
    · exact ⟨by omega, by omega, fun h => by rw [h] at h1; cases h1⟩
  have h1 := hr _ _ ha
  have h2 := hr _ _ hb
  have h3 := hr _ _ hc
  have hn : -32768 ≤ i.imm ∧ i.imm ≤ 32767 := by
    rcases hi with hi | ⟨_, hi⟩
    · omega
    · unfold numI fits16 at hi
      split at hi
      · simp at hi; omega
      · split at hi
        · simp at hi; omega
        · split at hi
          · simp at hi; omega
          · simp at hi; omega
  have hci : hasI i.op = true → hasC i.op = false := fun h => by
    unfold hasI at h
    unfold hasC
    simp only [decide_eq_true_eq] at h
    simp only [decide_eq_false_iff_not]
    omega
  refine ⟨ho'.1, ho'.2, h1.1, h1.2.1, h2.1, h2.2.1, h3.1, h3.2.1, hn.1, hn.2, ?_, fun h => h3.2.2 (hci h), fun h => ?_⟩
  · rcases hi with hi | ⟨hi, _⟩
    · exact .inr hi
    · exact .inl (h3.2.2 (hci hi))
  · rcases hi with hi | ⟨hi, _⟩
    · exact hi
    · rw [h] at hi; cases hi
theorem wraps_i64 (n : Int) (h₀ : 0 ≤ n) (h₁ : n < 2 ^ 62) : IntKind.i64.wrap n = n := by rw [IntKind.wrap_i64]; omega
theorem or_i64 (i : Nat) (x y : Int) (hx₀ : 0 ≤ x) (hx : x % 2 ^ i = 0) (hx₁ : x < 2 ^ 62) (hy₀ : 0 ≤ y) (hy : y < 2 ^ i) (hy₁ : y < 2 ^ 62) :
    Go.bits .or .i64 x y = x + y := bits_join .i64 62 (by decide) wraps_i64 i x y hx₀ hx hx₁ hy₀ hy hy₁
theorem and_31 (x : Int) (h₀ : 0 ≤ x) (h₁ : x < 2 ^ 62) : Go.bits .and .i64 x 31 = x % 32 := bits_mask .i64 62 (by decide) wraps_i64 5 (by decide) x h₀ h₁
theorem toNat_ofInt64 (x : Int) : ((BitVec.ofInt 64 x).toNat : Int) = x % 18446744073709551616 := by
  rw [BitVec.toNat_ofInt]; simp; omega
theorem and_65535 (x : Int) : Go.bits .and .i64 x 65535 = x % 65536 := by
  have e : (BitVec.ofInt 64 x &&& BitVec.ofInt 64 65535).toNat = (BitVec.ofInt 64 x).toNat % 65536 := by
    rw [BitVec.toNat_and, show (BitVec.ofInt 64 65535).toNat = 2 ^ 16 - 1 from by decide, Nat.and_two_pow_sub_one_eq_mod]
  have h := toNat_ofInt64 x
  unfold Go.bits
  show IntKind.i64.wrap (((BitVec.ofInt 64 x &&& BitVec.ofInt 64 65535).toNat : Nat) : Int) = _
  rw [e, wraps_i64 _ (by omega) (by omega)]
  omega
theorem p26 : (2 : Int) ^ min (Int.toNat 26) IntKind.i64.bits = 67108864 := by decide
theorem p21 : (2 : Int) ^ min (Int.toNat 21) IntKind.i64.bits = 2097152 := by decide
theorem p16 : (2 : Int) ^ min (Int.toNat 16) IntKind.i64.bits = 65536 := by decide
theorem p11 : (2 : Int) ^ min (Int.toNat 11) IntKind.i64.bits = 2048 := by decide
theorem enc_or {i : In} (h : goodI i = true) : Go.bits .or .i64 (Go.bits .or .i64 (Go.bits .or .i64 (Go.bits .or .i64 (IntKind.i64.wrap (i.op * 67108864)) (IntKind.i64.wrap (i.a * 2097152))) (IntKind.i64.wrap (i.b * 65536))) (IntKind.i64.wrap (i.c * 2048))) (Go.bits .and .i64 i.imm 65535) = encF i := by
  obtain ⟨h1, h2, h3, h4, h5, h6, h7, h8, h9, h10, h11, _⟩ := good_parts h
  obtain ⟨op, a, b, c, n⟩ := i
  dsimp only at *
  rw [and_65535]
  rw [wrap_in (inK_i64 (by omega) (by omega)), wrap_in (inK_i64 (by omega) (by omega)), wrap_in (inK_i64 (by omega) (by omega)), wrap_in (inK_i64 (by omega) (by omega))]
  rw [or_i64 26 (op * 67108864) (a * 2097152) (by omega) (by omega) (by omega) (by omega) (by omega) (by omega)]
  rw [or_i64 21 (op * 67108864 + a * 2097152) (b * 65536) (by omega) (by omega) (by omega) (by omega) (by omega) (by omega)]
  rw [or_i64 16 (op * 67108864 + a * 2097152 + b * 65536) (c * 2048) (by omega) (by omega) (by omega) (by omega) (by omega) (by omega)]
  rcases h11 with rfl | rfl
  · rw [or_i64 16 _ (n % 65536) (by omega) (by omega) (by omega) (by omega) (by omega) (by omega)]
    unfold encF; rfl
  · rw [or_i64 11 _ (0 % 65536) (by omega) (by omega) (by omega) (by omega) (by omega) (by omega)]
    unfold encF; rfl
theorem encC (i : In) : FnC (α := Unit) Try.prog 23 [inG i] [] [] (fun _ => .tuple #[.int .i64 (if goodI i then encF i else 0), .bool (goodI i)]) (fun _ => []) (fun _ => True) := by
  unfold inG
  refine fn_intro Try.func23 Try.ntmps23 rfl rfl rfl (fun w0 => ?_)
  try simp only [List.cons_append, List.nil_append, List.append_nil]
  refine rr ?_
  intro b1 _
  refine rr ?_
  refine cl (rightIC i) ?_
  intro _ _
  try simp only [List.cons_append, List.nil_append, List.append_nil]
  cases h : goodI i with
  | false =>
    refine rr ?_
    exact en () trivial
  | true =>
    have he := enc_or h
    refine rr ?_
    refine en () trivial (hv := ?_)
    rw [p26, p21, p16, p11, if_pos rfl, ← he]
    rfl
theorem encRefC (i : In) (h : goodI i = true) : FnC (α := Unit) Try.prog 42 [inG i] [] [] (fun _ => .int .i64 (encF i)) (fun _ => []) (fun _ => True) := by
  obtain ⟨h1, h2, h3, h4, h5, h6, h7, h8, h9, h10, h11, _⟩ := good_parts h
  unfold inG encF
  refine fn_intro Try.func42 Try.ntmps42 rfl rfl rfl (fun w0 => ?_)
  try simp only [List.cons_append, List.nil_append, List.append_nil]
  by_cases hn : i.imm < 0
  · refine rr ?_
    intro b1 _
    refine rr ?_
    refine en () trivial (hv := ?_)
    simp [packR]
    omega
  · refine rr ?_
    intro b1 _
    refine rr ?_
    refine en () trivial (hv := ?_)
    simp [packR]
    omega
/-- The number of the lowest 16 bits. -/
def extF (w : Int) : Int := (w + 32768) % 65536 - 32768
theorem extC (w : Int) : FnC (α := Unit) Try.prog 55 [.int .i64 w, .int .i64 16] [] [] (fun _ => .int .i64 (extF w)) (fun _ => []) (fun _ => True) := by
  refine fn_intro Try.func55 Try.ntmps55 rfl rfl rfl (fun w0 => ?_)
  try simp only [List.cons_append, List.nil_append, List.append_nil]
  refine rr ?_
  refine en () trivial (hv := ?_)
  rw [show (2 : Int) ^ min ((32 : Int) - 16).toNat IntKind.i32.bits = 65536 by decide]
  show Value.int .i64 _ = Value.int .i64 _
  congr 1
  unfold extF
  rw [IntKind.wrap_i32, IntKind.wrap_i32, IntKind.wrap_i64]
  omega
/-- The instruction of a word, if it is one. -/
def decF (w : Int) : In := if hasI (w / 67108864) then ⟨w / 67108864, w / 2097152 % 32, w / 65536 % 32, 0, extF w⟩ else ⟨w / 67108864, w / 2097152 % 32, w / 65536 % 32, w / 2048 % 32, 0⟩
def decOk (w : Int) : Bool := decide (0 ≤ w) && (decide (w < 4294967296) && (goodI (decF w) && decide (encF (decF w) = w)))
theorem decF_op (w : Int) : (decF w).op = w / 67108864 := by unfold decF; split <;> rfl
theorem decF_enc {w : Int} (h0 : 0 ≤ w) (h1 : w < 4294967296) : encF (decF w) = if hasI (w / 67108864) then w else w - w % 2048 := by
  unfold decF
  split
  · rename_i h
    unfold encF extF
    dsimp only
    omega
  · unfold encF
    dsimp only
    omega
set_option maxHeartbeats 1000000 in
theorem decC (w : Int) : FnC (α := Unit) Try.prog 39 [.int .i64 w] [] [] (fun _ => .tuple #[inG (if decOk w then decF w else inD), .bool (decOk w)]) (fun _ => []) (fun _ => True) := by
  unfold inG
  refine fn_intro Try.func39 Try.ntmps39 rfl rfl rfl (fun w0 => ?_)
  try simp only [List.cons_append, List.nil_append, List.append_nil]
  by_cases h0 : w < 0
  · have hd : decOk w = false := by unfold decOk; rw [decide_eq_false (by omega)]; rfl
    rw [hd]
    refine rr ?_
    intro b2 _
    refine rr ?_
    exact en () trivial
  by_cases h1 : 4294967296 ≤ w
  · have hd : decOk w = false := by unfold decOk; rw [decide_eq_false (p := w < 4294967296) (by omega)]; simp
    rw [hd]
    refine rr ?_
    intro b2 _
    refine rr ?_
    exact en () trivial
  refine rr ?_
  intro b2 _
  refine rr ?_
  have e26 : w / 2 ^ min (Int.toNat 26) IntKind.i64.bits = w / 67108864 := by rw [p26]
  have e21 : Go.bits .and .i64 (w / 2 ^ min (Int.toNat 21) IntKind.i64.bits) 31 = w / 2097152 % 32 := by rw [p21, and_31 _ (by omega) (by omega)]
  have e16 : Go.bits .and .i64 (w / 2 ^ min (Int.toNat 16) IntKind.i64.bits) 31 = w / 65536 % 32 := by rw [p16, and_31 _ (by omega) (by omega)]
  have e11 : Go.bits .and .i64 (w / 2 ^ min (Int.toNat 11) IntKind.i64.bits) 31 = w / 2048 % 32 := by rw [p11, and_31 _ (by omega) (by omega)]
  refine rr ?_
  intro b4 _
  refine rr ?_
  rw [e26, e21, e16]
  refine rr ?_
  refine cl (ofC (w / 67108864)) ?_
  intro _ _
  try simp only [List.cons_append, List.nil_append, List.append_nil]
  have hok : decOk w = (goodI (decF w) && decide (encF (decF w) = w)) := by
    unfold decOk
    rw [decide_eq_true (by omega), decide_eq_true (p := w < 4294967296) (by omega)]
    simp
  rw [hok]
  cases hI : hasI (w / 67108864) with
  | true =>
    have hdf : decF w = ⟨w / 67108864, w / 2097152 % 32, w / 65536 % 32, 0, extF w⟩ := by unfold decF; rw [if_pos hI]
    rw [hdf]
    refine rr ?_
    intro b5 _
    refine rr ?_
    refine cl (extC w) ?_
    intro _ _
    try simp only [List.cons_append, List.nil_append, List.append_nil]
    refine rr ?_
    refine cl (encC ⟨w / 67108864, w / 2097152 % 32, w / 65536 % 32, 0, extF w⟩) ?_
    intro _ _
    try simp only [List.cons_append, List.nil_append, List.append_nil]
    cases hg : goodI ⟨w / 67108864, w / 2097152 % 32, w / 65536 % 32, 0, extF w⟩ with
    | false =>
      refine rr ?_
      exact en () trivial
    | true =>
      simp only [if_true]
      by_cases he : encF ⟨w / 67108864, w / 2097152 % 32, w / 65536 % 32, 0, extF w⟩ = w
      · rw [decide_eq_true he, he]
        refine rr ?_
        exact en () trivial
      · rw [decide_eq_false he]
        refine rr ?_
        exact en () trivial
  | false =>
    have hdf : decF w = ⟨w / 67108864, w / 2097152 % 32, w / 65536 % 32, w / 2048 % 32, 0⟩ := by unfold decF; rw [hI]; rfl
    rw [hdf]
    refine rr ?_
    intro b5 _
    refine rr ?_
    rw [e11]
    refine rr ?_
    refine cl (encC ⟨w / 67108864, w / 2097152 % 32, w / 65536 % 32, w / 2048 % 32, 0⟩) ?_
    intro _ _
    try simp only [List.cons_append, List.nil_append, List.append_nil]
    cases hg : goodI ⟨w / 67108864, w / 2097152 % 32, w / 65536 % 32, w / 2048 % 32, 0⟩ with
    | false =>
      refine rr ?_
      exact en () trivial
    | true =>
      simp only [if_true]
      by_cases he : encF ⟨w / 67108864, w / 2097152 % 32, w / 65536 % 32, w / 2048 % 32, 0⟩ = w
      · rw [decide_eq_true he, he]
        refine rr ?_
        exact en () trivial
      · rw [decide_eq_false he]
        refine rr ?_
        exact en () trivial
/-- An instruction that is none's: what the list is not. -/
theorem shF_val (op : Int) : shF op 0 = b2 (hasA op) + 2 * b2 (hasB op) + 4 * b2 (hasC op) + 8 * b2 (hasI op) := by
  simp only [shF]
  omega
set_option maxHeartbeats 1000000 in
theorem decRefC (w : Int) : FnC (α := Unit) Try.prog 46 [.int .i64 w] [] [] (fun _ => .tuple #[inG (if decOk w then decF w else inD), .bool (decOk w)]) (fun _ => []) (fun _ => True) := by
  unfold inG
  refine fn_intro Try.func46 Try.ntmps46 rfl rfl rfl (fun w0 => ?_)
  try simp only [List.cons_append, List.nil_append, List.append_nil]
  by_cases h0 : w < 0
  · have hd : decOk w = false := by unfold decOk; rw [decide_eq_false (by omega)]; rfl
    rw [hd]
    refine rr ?_
    intro bx2 _
    refine rr ?_
    exact en () trivial
  by_cases h1 : 4294967295 < w
  · have hd : decOk w = false := by unfold decOk; rw [decide_eq_false (p := w < 4294967296) (by omega)]; simp
    rw [hd]
    refine rr ?_
    intro bx2 _
    refine rr ?_
    exact en () trivial
  have hok : decOk w = (goodI (decF w) && decide (encF (decF w) = w)) := by
    unfold decOk
    rw [decide_eq_true (by omega), decide_eq_true (p := w < 4294967296) (by omega)]
    simp
  have hop := decF_op w
  have hen := decF_enc (w := w) (by omega) (by omega)
  have hsv := shF_val (w / 67108864)
  have hb1 := b2_range (hasA (w / 67108864))
  have hb2 := b2_range (hasB (w / 67108864))
  have hb3 := b2_range (hasC (w / 67108864))
  refine rr ?_
  intro bx2 _
  refine rr ?_
  intro bx4 _
  refine rr ?_
  refine cl (shapeC (w / 67108864)) ?_
  intro _ _
  try simp only [List.cons_append, List.nil_append, List.append_nil]
  unfold shapeV
  cases ho : okO (w / 67108864) with
  | false =>
    have hg : goodI (decF w) = false := by unfold goodI; rw [hop, ho]; rfl
    rw [hok, hg]
    refine rr ?_
    exact en () trivial
  | true =>
    simp only [if_true]
    cases hI : hasI (w / 67108864) with
    | true =>
      have hv : shF (w / 67108864) 0 = shF (w / 67108864) 0 := rfl
      rw [hI] at hsv hen
      have hb4 : b2 true = 1 := rfl
      rw [if_pos rfl] at hen
      have hdf : decF w = ⟨w / 67108864, w / 2097152 % 32, w / 65536 % 32, 0, extF w⟩ := by unfold decF; rw [if_pos hI]
      by_cases hx : 32767 < w % 65536
      · have hex : extF w = w % 65536 - 65536 := by unfold extF; omega
        refine rr ?_
        rw [← hex]
        refine rr ?_
        refine cl (right02C ⟨w / 67108864, w / 2097152 % 32, w / 65536 % 32, 0, extF w⟩) ?_
        intro _ _
        try simp only [List.cons_append, List.nil_append, List.append_nil]
        rw [hok, hen, hdf, decide_eq_true rfl, Bool.and_true]
        cases hg : goodI ⟨w / 67108864, w / 2097152 % 32, w / 65536 % 32, 0, extF w⟩ with
        | false =>
          refine rr ?_
          exact en () trivial
        | true =>
          refine rr ?_
          exact en () trivial
      · have hex : extF w = w % 65536 := by unfold extF; omega
        refine rr ?_
        rw [← hex]
        refine rr ?_
        refine cl (right02C ⟨w / 67108864, w / 2097152 % 32, w / 65536 % 32, 0, extF w⟩) ?_
        intro _ _
        try simp only [List.cons_append, List.nil_append, List.append_nil]
        rw [hok, hen, hdf, decide_eq_true rfl, Bool.and_true]
        cases hg : goodI ⟨w / 67108864, w / 2097152 % 32, w / 65536 % 32, 0, extF w⟩ with
        | false =>
          refine rr ?_
          exact en () trivial
        | true =>
          refine rr ?_
          exact en () trivial
    | false =>
      rw [hI] at hsv hen
      have hb4 : b2 false = 0 := rfl
      simp only [if_false, Bool.false_eq_true] at hen
      have hdf : decF w = ⟨w / 67108864, w / 2097152 % 32, w / 65536 % 32, w / 2048 % 32, 0⟩ := by unfold decF; rw [hI]; rfl
      by_cases hz : w % 2048 = 0
      · have hen : encF (decF w) = w := by rw [hen]; omega
        refine rr ?_
        refine cl (right02C ⟨w / 67108864, w / 2097152 % 32, w / 65536 % 32, w / 2048 % 32, 0⟩) ?_
        intro _ _
        try simp only [List.cons_append, List.nil_append, List.append_nil]
        rw [hok, hen, hdf, decide_eq_true rfl, Bool.and_true]
        cases hg : goodI ⟨w / 67108864, w / 2097152 % 32, w / 65536 % 32, w / 2048 % 32, 0⟩ with
        | false =>
          refine rr ?_
          exact en () trivial
        | true =>
          refine rr ?_
          exact en () trivial
      · rw [hok, hen, decide_eq_false (show ¬ (w - w % 2048 = w) by omega), Bool.and_false]
        refine rr ?_
        exact en () trivial
end Go.Proofs.Ytgmegfmabkkaoaa

/- Contracts of package isa: which instructions are right. -/
import Derived.Test.YtgmegfmabkkaoaaRr
namespace Go.Proofs.Ytgmegfmabkkaoaa
open Go Go.Sx Go.Sx.Chunk
set_option linter.unusedVariables false
set_option linter.unusedSimpArgs false

/-- An instruction. -/
structure In where
  mk ::
  (op a b c imm : Int)
deriving DecidableEq
def inV (i : In) : List Value := [.int .i64 i.op, .int .i64 i.a, .int .i64 i.b, .int .i64 i.c, .int .i64 i.imm]
def inG (i : In) : Value := .agg #[.int .i64 i.op, .int .i64 i.a, .int .i64 i.b, .int .i64 i.c, .int .i64 i.imm]
def hasA (op : Int) : Bool := decide (1 ≤ op ∧ op ≤ 16 ∨ op = 19)
def hasB (op : Int) : Bool := decide (1 ≤ op ∧ op ≤ 16 ∧ op ≠ 11)
def hasC (op : Int) : Bool := decide (1 ≤ op ∧ op ≤ 9)
def hasI (op : Int) : Bool := decide (10 ≤ op ∧ op ≤ 18 ∨ op = 20)
def okO (op : Int) : Bool := decide (0 ≤ op ∧ op ≤ 20)
def regI (n : Int) (had : Bool) : Bool := decide (n = 0) || (had && decide (0 < n ∧ n < 32))
def fits16 (n : Int) : Bool := decide (-32768 ≤ n ∧ n < 32768)
def numI (op n : Int) : Bool := if op = 17 ∨ op = 18 then decide (0 ≤ n ∧ n ≤ 4096) else if op = 20 then decide (0 ≤ n ∧ n ≤ 2) else if op = 14 then decide (0 ≤ n) && fits16 n else fits16 n
def goodI (i : In) : Bool := okO i.op && regI i.a (hasA i.op) && regI i.b (hasB i.op) && regI i.c (hasC i.op) && (decide (i.imm = 0) || (hasI i.op && numI i.op i.imm))
theorem ops (op : Int) (h : ¬ (op < 0 ∨ 20 < op)) : op = 0 ∨ op = 1 ∨ op = 2 ∨ op = 3 ∨ op = 4 ∨ op = 5 ∨ op = 6 ∨ op = 7 ∨ op = 8 ∨ op = 9 ∨ op = 10 ∨ op = 11 ∨ op = 12 ∨ op = 13 ∨ op = 14 ∨ op = 15 ∨ op = 16 ∨ op = 17 ∨ op = 18 ∨ op = 19 ∨ op = 20 := by omega
theorem and_b {p q : Prop} [Decidable p] [Decidable q] : (decide (p ∧ q)) = (decide p && decide q) := by by_cases hp : p <;> by_cases hq : q <;> simp [hp, hq]

set_option maxHeartbeats 4000000 in
theorem fitsC (n : Int) : FnC (α := Unit) Try.prog 56 [.int .i64 n, .int .i64 16] [] [] (fun _ => .bool (fits16 n)) (fun _ => []) (fun _ => True) := by
  refine fn_intro Try.func56 Try.ntmps56 rfl rfl rfl (fun w0 => ?_)
  try simp only [List.cons_append, List.nil_append, List.append_nil]
  refine rr ?_
  have h1 : IntKind.i64.wrap (1 * 2 ^ min ((16 : Int) - 1).toNat IntKind.i64.bits) = 32768 := by decide +kernel
  have h2 : IntKind.i64.wrap (-32768) = -32768 := by decide +kernel
  rw [h1, h2]
  by_cases h : -32768 ≤ n
  · refine rr ?_
    refine we () [] trivial (hv := ?_)
    show Value.bool _ = _
    unfold fits16
    rw [and_b, decide_eq_true h]
    rfl
  · refine rr ?_
    refine we () [] trivial (hv := ?_)
    show Value.bool _ = _
    unfold fits16
    rw [and_b, decide_eq_false h]
    rfl
set_option maxHeartbeats 16000000 in
theorem ofC (op : Int) : FnC (α := Unit) Try.prog 49 [.int .i64 op] [] [] (fun _ => .tuple #[.agg #[.bool (hasA op), .bool (hasB op), .bool (hasC op), .bool (hasI op)], .bool (okO op)]) (fun _ => []) (fun _ => True) := by
  refine fn_intro Try.func49 Try.ntmps49 rfl rfl rfl (fun w0 => ?_)
  try simp only [List.cons_append, List.nil_append, List.append_nil]
  by_cases h : op < 0 ∨ 20 < op
  · refine rr ?_
    intro b _
    refine rr ?_
    refine we () [] trivial (hv := ?_)
    have h1 : hasA op = false := by unfold hasA; simp; omega
    have h2 : hasB op = false := by unfold hasB; simp; omega
    have h3 : hasC op = false := by unfold hasC; simp; omega
    have h4 : hasI op = false := by unfold hasI; simp; omega
    have h5 : okO op = false := by unfold okO; simp; omega
    rw [h1, h2, h3, h4, h5]
    rfl
  · rcases ops op h with rfl | rfl | rfl | rfl | rfl | rfl | rfl | rfl | rfl | rfl | rfl | rfl | rfl | rfl | rfl | rfl | rfl | rfl | rfl | rfl | rfl
    all_goals
      refine rr ?_
      intro b _
      refine rr ?_
      refine we () [] trivial (hv := ?_)
      kernel_rfl
theorem regC (n : Int) (had : Bool) : FnC (α := Unit) Try.prog 50 [.int .i64 n, .bool had] [] [] (fun _ => .bool (regI n had)) (fun _ => []) (fun _ => True) := by
  refine fn_intro Try.func50 Try.ntmps50 rfl rfl rfl (fun w0 => ?_)
  try simp only [List.cons_append, List.nil_append, List.append_nil]
  cases had
  · by_cases h : n = 0
    · refine rr ?_
      refine we () [] trivial (hv := ?_)
      show Value.bool _ = Value.bool (decide (n = 0) || _)
      simp [h]
    · refine rr ?_
      refine we () [] trivial (hv := ?_)
      show Value.bool _ = Value.bool (decide (n = 0) || _)
      simp [h]
  · by_cases h : n = 0
    · refine rr ?_
      refine we () [] trivial (hv := ?_)
      show Value.bool _ = Value.bool (decide (n = 0) || _)
      simp [h]
    · by_cases h1 : 0 < n
      · refine rr ?_
        refine we () [] trivial (hv := ?_)
        show Value.bool _ = Value.bool (decide (n = 0) || _)
        simp [h, h1]
      · refine rr ?_
        refine we () [] trivial (hv := ?_)
        show Value.bool _ = Value.bool (decide (n = 0) || _)
        simp [h, h1]
set_option maxHeartbeats 4000000 in
theorem numC (op n : Int) : FnC (α := Unit) Try.prog 51 [.int .i64 op, .int .i64 n] [] [] (fun _ => .bool (numI op n)) (fun _ => []) (fun _ => True) := by
  refine fn_intro Try.func51 Try.ntmps51 rfl rfl rfl (fun w0 => ?_)
  try simp only [List.cons_append, List.nil_append, List.append_nil]
  by_cases h17 : op = 17 ∨ op = 18
  · have hv : numI op n = (decide (0 ≤ n) && decide (n ≤ 4096)) := by unfold numI; rw [if_pos h17, and_b]
    rcases h17 with rfl | rfl
    all_goals
      by_cases h0 : 0 ≤ n
      all_goals
        refine rr ?_
        refine we () [] trivial (hv := ?_)
        rw [hv]
        simp [packR, h0]
  · by_cases h20 : op = 20
    · have hv : numI op n = (decide (0 ≤ n) && decide (n ≤ 2)) := by unfold numI; rw [if_neg h17, if_pos h20, and_b]
      subst h20
      by_cases h0 : 0 ≤ n
      all_goals
        refine rr ?_
        refine we () [] trivial (hv := ?_)
        rw [hv]
        simp [packR, h0]
    · by_cases h14 : op = 14
      · have hv : numI op n = (decide (0 ≤ n) && fits16 n) := by unfold numI; rw [if_neg h17, if_neg h20, if_pos h14]
        subst h14
        by_cases h0 : 0 ≤ n
        · refine rr ?_
          refine ca [] (fitsC n) ?_
          intro x hx
          try simp only [List.cons_append, List.nil_append, List.append_nil]
          refine rr ?_
          refine we () [] trivial (hv := ?_)
          rw [hv]
          simp [packR, h0]
        · refine rr ?_
          refine we () [] trivial (hv := ?_)
          rw [hv]
          simp [packR, h0]
      · have hv : numI op n = fits16 n := by unfold numI; rw [if_neg h17, if_neg h20, if_neg h14]
        refine rr ?_
        refine ca [] (fitsC n) ?_
        intro x hx
        try simp only [List.cons_append, List.nil_append, List.append_nil]
        refine rr ?_
        refine we () [] trivial (hv := ?_)
        rw [hv]
        rfl
set_option maxHeartbeats 8000000 in
theorem rightIC (i : In) : FnC (α := Unit) Try.prog 28 [inG i] [] [] (fun _ => .bool (goodI i)) (fun _ => []) (fun _ => True) := by
  unfold inG
  refine fn_intro Try.func28 Try.ntmps28 rfl rfl rfl (fun w0 => ?_)
  try simp only [List.cons_append, List.nil_append, List.append_nil]
  refine rr ?_
  intro b _
  refine rr ?_
  refine ca [] (ofC i.op) ?_
  intro x hx
  try simp only [List.cons_append, List.nil_append, List.append_nil]
  refine rr ?_
  intro b1 _
  refine rr ?_
  unfold goodI
  generalize okO i.op = o
  generalize hasA i.op = ha
  generalize hasB i.op = hb
  generalize hasC i.op = hc
  generalize hI : hasI i.op = hi
  cases o
  · refine rr ?_
    exact we () [] trivial
  refine rr ?_
  refine ca [] (regC i.a ha) ?_
  intro x hx
  try simp only [List.cons_append, List.nil_append, List.append_nil]
  generalize regI i.a ha = ra
  cases ra
  · refine rr ?_
    exact we () [] trivial
  refine rr ?_
  refine ca [] (regC i.b hb) ?_
  intro x hx
  try simp only [List.cons_append, List.nil_append, List.append_nil]
  generalize regI i.b hb = rb
  cases rb
  · refine rr ?_
    exact we () [] trivial
  refine rr ?_
  refine ca [] (regC i.c hc) ?_
  intro x hx
  try simp only [List.cons_append, List.nil_append, List.append_nil]
  generalize regI i.c hc = rc
  cases rc
  · refine rr ?_
    exact we () [] trivial
  by_cases h0 : i.imm = 0
  · refine rr ?_
    refine we () [] trivial (hv := ?_)
    simp [packR, h0]
  · have h1 : decide (i.imm = 0) = false := decide_eq_false h0
    rw [h1]
    cases hi
    · refine rr ?_
      exact we () [] trivial
    · refine rr ?_
      refine ca [] (numC i.op i.imm) ?_
      intro x hx
      try simp only [List.cons_append, List.nil_append, List.append_nil]
      refine rr ?_
      exact we () [] trivial
end Go.Proofs.Ytgmegfmabkkaoaa

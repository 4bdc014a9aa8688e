/- The reference's Right of instructions: the same. -/
import Derived.Test.YtgmegfmabkkaoaaIs1
namespace Go.Proofs.Ytgmegfmabkkaoaa
open Go Go.Sx Go.Sx.Chunk
set_option linter.unusedVariables false
set_option linter.unusedSimpArgs false

def b2 (b : Bool) : Int := if b then 1 else 0
theorem b2_range (b : Bool) : 0 ≤ b2 b ∧ b2 b ≤ 1 := by cases b <;> simp [b2]
/-- The parts of an operation that are still to come. -/
def shF (op : Int) : Nat → Int
  | 0 => b2 (hasA op) + 2 * (b2 (hasB op) + 2 * (b2 (hasC op) + 2 * b2 (hasI op)))
  | 1 => b2 (hasB op) + 2 * (b2 (hasC op) + 2 * b2 (hasI op))
  | 2 => b2 (hasC op) + 2 * b2 (hasI op)
  | _ => b2 (hasI op)
theorem shF_range (op : Int) (k : Nat) : 0 ≤ shF op k ∧ shF op k ≤ 15 := by
  have h1 := b2_range (hasA op)
  have h2 := b2_range (hasB op)
  have h3 := b2_range (hasC op)
  have h4 := b2_range (hasI op)
  rcases k with _ | _ | _ | k <;> simp only [shF] <;> omega
def shapeV (op : Int) : Int := if okO op = true then shF op 0 else -1
set_option maxHeartbeats 8000000 in
theorem shapeC (op : Int) : FnC (α := Unit) Try.prog 47 [.int .i64 op] [] [] (fun _ => .int .i64 (shapeV op)) (fun _ => []) (fun _ => True) := by
  refine fn_intro Try.func47 Try.ntmps47 rfl rfl rfl (fun w0 => ?_)
  try simp only [List.cons_append, List.nil_append, List.append_nil]
  by_cases h : op < 0 ∨ 20 < op
  · have h5 : okO op = false := by unfold okO; simp; omega
    have hv : shapeV op = -1 := by unfold shapeV; rw [h5]; rfl
    by_cases h0 : op < 0
    all_goals
      refine rr ?_
      refine we () [] trivial (hv := ?_)
      rw [hv]
      rfl
  · rcases ops op h with rfl | rfl | rfl | rfl | rfl | rfl | rfl | rfl | rfl | rfl | rfl | rfl | rfl | rfl | rfl | rfl | rfl | rfl | rfl | rfl | rfl
    all_goals
      refine rr ?_
      intro b _
      refine rr ?_
      refine we () [] trivial (hv := ?_)
      kernel_rfl
/-- One register is wrong. -/
theorem regI_false {n : Int} {had : Bool} (h : (had = false ∧ n ≠ 0) ∨ n < 0 ∨ 31 < n) : regI n had = false := by
  unfold regI
  cases had <;> simp at h ⊢ <;> omega
theorem regI_true {n : Int} {had : Bool} (h : ¬ ((had = false ∧ n ≠ 0) ∨ n < 0 ∨ 31 < n)) : regI n had = true := by
  unfold regI
  cases had <;> simp at h ⊢ <;> omega
def regK (i : In) : Nat → Int
  | 0 => i.a
  | 1 => i.b
  | _ => i.c
def hasK (op : Int) : Nat → Bool
  | 0 => hasA op
  | 1 => hasB op
  | _ => hasC op
theorem shF_step (op : Int) (k : Nat) (hk : k < 3) : shF op k = b2 (hasK op k) + 2 * shF op (k + 1) := by
  rcases k with _ | _ | _ | k <;> first | rfl | omega
theorem goodI_reg {i : In} {k : Nat} (hk : k < 3) (h : regI (regK i k) (hasK i.op k) = false) : goodI i = false := by
  unfold goodI
  rcases k with _ | _ | _ | k
  · simp only [regK, hasK] at h; rw [h]; simp
  · simp only [regK, hasK] at h; rw [h]; simp
  · simp only [regK, hasK] at h; rw [h]; simp
  · omega
set_option maxHeartbeats 8000000 in
theorem right02C (i : In) : FnC (α := Unit) Try.prog 25 [inG i] [] [] (fun _ => .bool (goodI i)) (fun _ => []) (fun _ => True) := by
  unfold inG
  refine fn_intro Try.func25 Try.ntmps25 rfl rfl rfl (fun w0 => ?_)
  try simp only [List.cons_append, List.nil_append, List.append_nil]
  refine rr ?_
  intro b _
  refine rr ?_
  refine ca [] (shapeC i.op) ?_
  intro x hx
  try simp only [List.cons_append, List.nil_append, List.append_nil]
  by_cases hok : okO i.op = true
  · have hv : shapeV i.op = shF i.op 0 := by unfold shapeV; rw [if_pos hok]
    have hr := shF_range i.op
    have h00 := hr 0
    rw [hv]
    refine rr ?_
    intro b1 _
    refine rr ?_
    refine w_loop (α := Nat) (fun k => [(1, .pointer (some ⟨b, 0, none⟩)), (3, .int .i64 (shF i.op k)), (4, .slice (some ⟨b1, 0, none⟩) 3 3), (5, .int .i64 (k : Int))])
      (fun k => [blk b1 [.int .i64 i.a, .int .i64 i.b, .int .i64 i.c] 3, blk b [.int .i64 i.op, .int .i64 i.a, .int .i64 i.b, .int .i64 i.c, .int .i64 i.imm] 63]) (fun k => k ≤ 3 ∧ ∀ j, j < k → regI (regK i j) (hasK i.op j) = true) (fun k => 3 - k) 0 ⟨rfl, rfl, rfl, rfl, trivial⟩ rfl ⟨Nat.zero_le _, fun j hj => by omega⟩ ?_
    rintro k ⟨hk, hall⟩ K1 hK1
    dsimp only
    by_cases hk3 : k < 3
    · have hs := shF_step i.op k hk3
      have hr1 := hr k
      have hr2 := hr (k + 1)
      have hl : nth [Value.int .i64 i.a, .int .i64 i.b, .int .i64 i.c] (0 + (k : Int).toNat * 1) = some (.int .i64 (regK i k)) := by
        rcases k with _ | _ | _ | k <;> first | rfl | omega
      cases hh : hasK i.op k
      · rw [hh] at hs
        have hmod : shF i.op k % 2 = 0 := by simp only [b2] at hs; simp at hs; omega
        have hdiv : shF i.op k / 2 = shF i.op (k + 1) := by simp only [b2] at hs; simp at hs; omega
        by_cases h0 : regK i k = 0
        · refine rr ?_
          rw [hdiv]
          refine w_round hK1 (k + 1) ⟨by omega, fun j hj => ?_⟩ (by omega) rfl ⟨rfl, rfl, rfl, rfl, trivial⟩
          by_cases hjk : j = k
          · subst hjk; exact regI_true (by omega)
          · exact hall j (by omega)
        · have hg := goodI_reg hk3 (regI_false (had := hasK i.op k) (.inl ⟨hh, h0⟩))
          rw [hg]
          refine rr ?_
          exact we () [] trivial
      · rw [hh] at hs
        have hmod : shF i.op k % 2 = 1 := by simp only [b2] at hs; simp at hs; omega
        have hdiv : shF i.op k / 2 = shF i.op (k + 1) := by simp only [b2] at hs; simp at hs; omega
        by_cases h0 : regK i k < 0
        · have hg := goodI_reg hk3 (regI_false (had := hasK i.op k) (.inr (.inl h0)))
          rw [hg]
          refine rr ?_
          exact we () [] trivial
        · by_cases h1 : 31 < regK i k
          · have hg := goodI_reg hk3 (regI_false (had := hasK i.op k) (.inr (.inr h1)))
            rw [hg]
            refine rr ?_
            exact we () [] trivial
          · refine rr ?_
            rw [hdiv]
            refine w_round hK1 (k + 1) ⟨by omega, fun j hj => ?_⟩ (by omega) rfl ⟨rfl, rfl, rfl, rfl, trivial⟩
            by_cases hjk : j = k
            · subst hjk; exact regI_true (by rw [hh]; simp; omega)
            · exact hall j (by omega)
    · obtain rfl : k = 3 := by omega
      have ha : regI i.a (hasA i.op) = true := hall 0 (by omega)
      have hb : regI i.b (hasB i.op) = true := hall 1 (by omega)
      have hc : regI i.c (hasC i.op) = true := hall 2 (by omega)
      have hg : goodI i = (decide (i.imm = 0) || (hasI i.op && numI i.op i.imm)) := by unfold goodI; rw [hok, ha, hb, hc]; rfl
      rw [hg]
      have hs3 : shF i.op 3 = b2 (hasI i.op) := rfl
      rw [hs3]
      by_cases h14 : i.op = 14
      · have hI : hasI i.op = true := by rw [h14]; rfl
        have key : ∀ n : Int, (decide (n = 0) || (hasI i.op && numI i.op n)) = (decide (0 ≤ n) && decide (n ≤ 32767)) := fun n => by
          rw [hI, h14]; unfold numI fits16; simp; rw [Bool.eq_iff_iff]; simp; omega
        rw [key]
        rw [hI]
        by_cases hlo : 0 ≤ i.imm
        · by_cases hhi : i.imm ≤ 32767
          all_goals
            refine rr ?_
            refine we () [] trivial (hv := ?_)
            simp [packR, hlo, hhi, b2]
        · refine rr ?_
          refine we () [] trivial (hv := ?_)
          simp [packR, hlo, b2]
      · have hcase : i.op = 17 ∨ i.op = 18 ∨ i.op = 20 ∨ (i.op ≠ 17 ∧ i.op ≠ 18 ∧ i.op ≠ 20) := by omega
        rcases hcase with h17 | h18 | h20 | ⟨h17, h18, h20⟩
        · have hI : hasI i.op = true := by rw [h17]; rfl
          have key : ∀ n : Int, (decide (n = 0) || (hasI i.op && numI i.op n)) = (decide (0 ≤ n) && decide (n ≤ 4096)) := fun n => by
            rw [hI, h17]; unfold numI; simp; omega
          rw [key]
          rw [hI]
          by_cases hlo : 0 ≤ i.imm
          · by_cases hhi : i.imm ≤ 4096
            all_goals
              refine rr ?_
              refine we () [] trivial (hv := ?_)
              simp [packR, hlo, hhi, b2]
          · refine rr ?_
            refine we () [] trivial (hv := ?_)
            simp [packR, hlo, b2]
        · have hI : hasI i.op = true := by rw [h18]; rfl
          have key : ∀ n : Int, (decide (n = 0) || (hasI i.op && numI i.op n)) = (decide (0 ≤ n) && decide (n ≤ 4096)) := fun n => by
            rw [hI, h18]; unfold numI; simp; omega
          rw [key]
          rw [hI]
          by_cases hlo : 0 ≤ i.imm
          · by_cases hhi : i.imm ≤ 4096
            all_goals
              refine rr ?_
              refine we () [] trivial (hv := ?_)
              simp [packR, hlo, hhi, b2]
          · refine rr ?_
            refine we () [] trivial (hv := ?_)
            simp [packR, hlo, b2]
        · have hI : hasI i.op = true := by rw [h20]; rfl
          have key : ∀ n : Int, (decide (n = 0) || (hasI i.op && numI i.op n)) = (decide (0 ≤ n) && decide (n ≤ 2)) := fun n => by
            rw [hI, h20]; unfold numI; simp; omega
          rw [key]
          rw [hI]
          by_cases hlo : 0 ≤ i.imm
          · by_cases hhi : i.imm ≤ 2
            all_goals
              refine rr ?_
              refine we () [] trivial (hv := ?_)
              simp [packR, hlo, hhi, b2]
          · refine rr ?_
            refine we () [] trivial (hv := ?_)
            simp [packR, hlo, b2]
        · have key : ∀ n : Int, numI i.op n = (decide (-32768 ≤ n) && decide (n ≤ 32767)) := fun n => by
            unfold numI fits16
            rw [if_neg (by omega), if_neg h20, if_neg h14, Bool.eq_iff_iff]; simp; omega
          rw [key]
          by_cases hlo : -32768 ≤ i.imm
          · by_cases hhi : i.imm ≤ 32767
            · cases hI : hasI i.op
              · by_cases hz : i.imm = 0
                all_goals
                  simp only [b2]
                  refine rr ?_
                  refine we () [] trivial (hv := ?_)
                  simp [packR, hlo, hhi, hz]
              · refine rr ?_
                refine we () [] trivial (hv := ?_)
                simp [packR, hlo, hhi, b2]
            · have hz : i.imm ≠ 0 := by omega
              refine rr ?_
              refine we () [] trivial (hv := ?_)
              simp [packR, hlo, hhi, hz]
          · have hz : i.imm ≠ 0 := by omega
            refine rr ?_
            refine we () [] trivial (hv := ?_)
            simp [packR, hlo, hz]
  · have hv : shapeV i.op = -1 := by unfold shapeV; rw [if_neg hok]
    rw [hv]
    refine rr ?_
    refine we () [] trivial (hv := ?_)
    simp at hok
    unfold goodI
    rw [hok]
    rfl
end Go.Proofs.Ytgmegfmabkkaoaa

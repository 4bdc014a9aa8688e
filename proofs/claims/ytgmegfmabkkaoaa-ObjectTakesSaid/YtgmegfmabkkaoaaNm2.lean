/- Names that are right: both. -/
import Derived.Test.YtgmegfmabkkaoaaNm1
namespace Go.Proofs.Ytgmegfmabkkaoaa
open Go Go.Sx Go.Sx.Chunk
set_option linter.unusedVariables false
set_option linter.unusedSimpArgs false

theorem indexFuncC (s : ByteArray) (hs : s.size ≤ maxLen) : FnC Try.prog 33 [.string s, .func (.func 34) #[] #[]] [] [] (fun v : Int => .int .i64 v) (fun _ => []) (fun v => decide (v < 0) = (txt s).all wordB) := by
  refine fn_intro Try.func33 Try.ntmps33 rfl rfl rfl (fun w0 => ?_)
  try simp only [List.cons_append, List.nil_append, List.append_nil]
  refine rr ?_
  refine ca [] (indexFC s hs) ?_
  intro x hx
  try simp only [List.cons_append, List.nil_append, List.append_nil]
  refine rr ?_
  exact we x [] hx
set_option maxHeartbeats 4000000 in
theorem rightNameC (s : ByteArray) (hs : s.size ≤ maxLen) : FnC (α := Unit) Try.prog 15 [.string s] [] [] (fun _ => .bool (nameF s)) (fun _ => []) (fun _ => True) := by
  refine fn_intro Try.func15 Try.ntmps15 rfl rfl rfl (fun w0 => ?_)
  try simp only [List.cons_append, List.nil_append, List.append_nil]
  unfold nameF
  by_cases h1 : 1 ≤ s.size
  · by_cases h2 : s.size ≤ 16
    · obtain ⟨c, hc⟩ := txt_some (s := s) (i := 0) (by omega)
      have hc2 := txt_at s 0 c hc
      have hc3 : s[(0 : Int).toNat]? = some c := hc2
      have hf : firstB (txt s) = lowB c := by
        cases ht : txt s with
        | nil => rw [ht] at hc; simp at hc
        | cons a l => rw [ht] at hc; simp at hc; subst hc; rfl
      rw [hf, decide_eq_true h1, decide_eq_true h2]
      unfold lowB
      by_cases h3 : 97 ≤ c.toNat
      · by_cases h4 : c.toNat ≤ 122
        · rw [decide_eq_true h3, decide_eq_true h4]
          refine rr ?_
          refine ca [] (indexFuncC s hs) ?_
          intro x hx
          try simp only [List.cons_append, List.nil_append, List.append_nil]
          rw [← hx]
          refine rr ?_
          refine we () [] trivial (hv := ?_)
          simp [packR]
        · rw [decide_eq_false h4]
          refine rr ?_
          refine we () [] trivial (hv := ?_)
          simp [packR, h3, h4]
          try omega
      · rw [decide_eq_false h3]
        refine rr ?_
        refine we () [] trivial (hv := ?_)
        simp [packR, h3]
        try omega
    · refine rr ?_
      refine we () [] trivial (hv := ?_)
      simp [packR, h1, h2]
      try omega
  · refine rr ?_
    refine we () [] trivial (hv := ?_)
    simp [packR, h1]
    try omega
/-- The first so many bytes are right. -/
def okN (s : ByteArray) (k : Nat) : Prop := ((txt s).take k).all wordB = true ∧ (0 < k → firstB (txt s) = true)
theorem nameF_bad {s : ByteArray} {k : Nat} {c : UInt8} (hc : (txt s)[k]? = some c) (hw : lowB c = false) (h : k = 0 ∨ digB c = false) : nameF s = false := by
  unfold nameF
  rcases h with rfl | h
  · have hf : firstB (txt s) = lowB c := by
      cases ht : txt s with
      | nil => rw [ht] at hc; simp at hc
      | cons a l => rw [ht] at hc; simp at hc; subst hc; rfl
    rw [hf, hw]; simp
  · rw [all_bad (p := wordB) hc (by unfold wordB; rw [hw, h]; rfl)]; simp
theorem okN_step {s : ByteArray} {k : Nat} {c : UInt8} (hc : (txt s)[k]? = some c) (hk : okN s k) (h : lowB c = true ∨ (k ≠ 0 ∧ digB c = true)) : okN s (k + 1) := by
  refine ⟨all_take hc (by unfold wordB; rcases h with h | ⟨_, h⟩ <;> simp [h]) hk.1, fun _ => ?_⟩
  rcases Nat.eq_zero_or_pos k with rfl | hp
  · rcases h with h | h
    · cases ht : txt s with
      | nil => rw [ht] at hc; simp at hc
      | cons a l => rw [ht] at hc; simp at hc; subst hc; exact h
    · exact absurd rfl h.1
  · exact hk.2 hp
set_option maxHeartbeats 4000000 in
theorem nameC (s : ByteArray) (hs : s.size ≤ maxLen) : FnC (α := Unit) Try.prog 16 [.string s] [] [] (fun _ => .bool (nameF s)) (fun _ => []) (fun _ => True) := by
  have hs' : s.size ≤ 9223372036854775807 := Nat.le_trans hs (by decide)
  refine fn_intro Try.func16 Try.ntmps16 rfl rfl rfl (fun w0 => ?_)
  try simp only [List.cons_append, List.nil_append, List.append_nil]
  refine rr ?_
  refine w_loop (α := Nat) (fun k => [(0, .string s), (3, .int .i64 (k : Int))]) (fun k => []) (fun k => k ≤ s.size ∧ okN s k) (fun k => s.size - k) 0 ⟨rfl, rfl, trivial⟩ rfl ⟨Nat.zero_le _, by simp [okN]⟩ ?_
  rintro k ⟨hk, hok⟩ K1 hK1
  by_cases hlt : k < s.size
  · obtain ⟨c, hc⟩ := txt_some hlt
    have hc2 : s[(k : Int).toNat]? = some c := txt_at s k c hc
    by_cases h3 : 97 ≤ c.toNat
    · by_cases h4 : c.toNat ≤ 122
      · have hl : lowB c = true := by simp [lowB, h3, h4]
        refine rr ?_
        exact w_round hK1 (k + 1) ⟨by omega, okN_step hc hok (.inl hl)⟩ (by show s.size - (k + 1) < s.size - k; omega) rfl ⟨rfl, rfl, trivial⟩
      · have hl : lowB c = false := by simp [lowB, h4]
        have hd : digB c = false := by simp [digB]; omega
        rw [nameF_bad hc hl (.inr hd)]
        by_cases h0 : k = 0
        · subst h0
          refine rr ?_
          exact we () [] trivial
        · refine rr ?_
          exact we () [] trivial
    · have hl : lowB c = false := by simp [lowB, h3]
      by_cases h0 : k = 0
      · subst h0
        rw [nameF_bad hc hl (.inl rfl)]
        refine rr ?_
        exact we () [] trivial
      · by_cases h5 : 48 ≤ c.toNat
        · by_cases h6 : c.toNat ≤ 57
          · have hd : digB c = true := by simp [digB, h5, h6]
            refine rr ?_
            exact w_round hK1 (k + 1) ⟨by omega, okN_step hc hok (.inr ⟨h0, hd⟩)⟩ (by show s.size - (k + 1) < s.size - k; omega) rfl ⟨rfl, rfl, trivial⟩
          · have hd : digB c = false := by simp [digB, h6]
            rw [nameF_bad hc hl (.inr hd)]
            refine rr ?_
            exact we () [] trivial
        · have hd : digB c = false := by simp [digB, h5]
          rw [nameF_bad hc hl (.inr hd)]
          refine rr ?_
          exact we () [] trivial
  · obtain rfl : k = s.size := by omega
    have ha : (txt s).all wordB = true := by
      have := hok.1
      rwa [List.take_of_length_le (by rw [txt_len]; omega)] at this
    by_cases h0 : 0 < s.size
    · have hf := hok.2 h0
      refine rr ?_
      refine we () [] trivial (hv := ?_)
      unfold nameF
      by_cases h7 : s.size ≤ 16
      · have h8 : decide ((s.size : Int) < 17) = true := by simp; omega
        have h9 : decide (1 ≤ s.size) = true := by simp; omega
        simp only [packR, h7, h8, h9, ha, hf, decide_true, Bool.and_true]
      · have h8 : decide ((s.size : Int) < 17) = false := by simp; omega
        simp [packR, h7, h8]
    · refine rr ?_
      refine we () [] trivial (hv := ?_)
      unfold nameF
      simp [packR]
      try omega
end Go.Proofs.Ytgmegfmabkkaoaa

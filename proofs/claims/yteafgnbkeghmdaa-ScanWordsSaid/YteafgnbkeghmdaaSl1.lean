/- ScanTokens: the walk. -/
import Derived.Test.YteafgnbkeghmdaaSr3
namespace Go.Proofs.Yteafgnbkeghmdaa
open Go Go.Sx Go.Sx.Chunk
set_option linter.unusedVariables false
set_option linter.unusedSimpArgs false

theorem tokC_len (l : List (Tk × Nat)) : (tokC l).length = 4 * l.length := by
  induction l with
  | nil => rfl
  | cons t l ih =>
    rw [show t :: l = [t] ++ l from rfl, tokC_app, List.length_append, ih, tokC_one]
    simp [Tk.cells]; omega
theorem tokC_get : ∀ {l : List (Tk × Nat)} {k : Nat} {t : Tk × Nat}, l[k]? = some t → ((tokC l).drop (4 * k)).take 4 = t.1.cells (t.2 : Int)
  | [], k, t, h => by simp at h
  | u :: l, 0, t, h => by
    simp only [List.getElem?_cons_zero, Option.some.injEq] at h
    subst h
    simp [tokC, Tk.cells]
  | u :: l, k + 1, t, h => by
    have ih := tokC_get (l := l) (k := k) (t := t) (by simpa using h)
    rw [show u :: l = [u] ++ l from rfl, tokC_app, show tokC [u] = u.1.cells (u.2 : Int) from by simp [tokC], show 4 * (k + 1) = 4 * k + 1 + 1 + 1 + 1 by omega]
    simpa only [Tk.cells, List.cons_append, List.nil_append, List.drop_succ_cons] using ih
theorem tok_get {l : List (Tk × Nat)} {k : Nat} {t : Tk × Nat} (h : l[k]? = some t) : ((tokC l).drop (0 + (k : Int).toNat * 4)).take 4 = t.1.cells (t.2 : Int) := by
  rw [show 0 + (k : Int).toNat * 4 = 4 * k by omega]; exact tokC_get h
theorem list_get {α : Type} {l : List α} {k : Nat} (h : k < l.length) : ∃ t, l[k]? = some t := ⟨l[k], by simp [h]⟩
theorem scanD_len : ∀ (n p : Nat) (l : List UInt8), l.length ≤ n → (scanD p l).1.length ≤ l.length
  | n, p, [], _ => Nat.le_refl _
  | 0, p, c :: r, h => by simp at h
  | n + 1, p, c :: r, h => by
    rw [scanD_cons]
    simp only [List.length_cons, Nat.add_le_add_iff_right] at h
    split
    · have := scanD_len n (p + 1) r h; simp; omega
    · split
      · split
        · simp
        · refine Nat.le_trans (scanD_len n _ _ (by simp; omega)) (by simp; omega)
      · split
        · simp
        · rename_i he
          have := tokR_len (c := c) (r := r) (by simpa using he)
          unfold consT
          split
          · have := scanD_len n (p + (tokR (c :: r)).2.1) ((c :: r).drop (tokR (c :: r)).2.1) (by simp; omega)
            simp only [List.length_cons, List.length_drop] at this ⊢
            simp only [List.length_cons] at *
            omega
          · simp
set_option maxHeartbeats 4000000 in
theorem tokens_spec (s : ByteArray) : FnC (α := Unit) Try.prog 3 [.string s] [] [] (fun _ => .bool true) (fun _ => []) (fun _ => True) := by
  refine fn_intro Try.func3 Try.ntmps3 rfl rfl rfl (fun w0 => ?_)
  try simp only [List.cons_append, List.nil_append, List.append_nil]
  by_cases hs : 2048 < s.size
  · refine rr ?_
    refine ca [] awakeC ?_
    intro x hx
    try simp only [List.cons_append, List.nil_append, List.append_nil]
    refine rr ?_
    exact we () [] trivial
  refine rr ?_
  refine ca [] (scanC s (by omega)) ?_
  intro x hx
  try simp only [List.cons_append, List.nil_append, List.append_nil]
  obtain ⟨a1, c1⟩ := x
  dsimp only
  refine rr ?_
  refine ca [] (rScanC s (by omega)) ?_
  intro x hx
  try simp only [List.cons_append, List.nil_append, List.append_nil]
  obtain ⟨a2, c2⟩ := x
  dsimp only
  have hmany := scanD_len _ 0 (txt s) (Nat.le_refl _)
  rw [txt_len] at hmany
  generalize scanD 0 (txt s) = res at hmany
  have hlen := tokC_len res.1
  refine rr ?_
  refine w_loop (α := Nat) (fun k => [(3, .slice a1 res.1.length c1), (6, .slice a2 res.1.length c2), (42, .int .i64 (res.1.length : Int)), (43, .int .i64 (k : Int))]) (fun _ => [row a2 c2 31 4 res.1.length (tokC res.1), row a1 c1 32 4 res.1.length (tokC res.1)]) (fun k => k ≤ res.1.length) (fun k => res.1.length - k) 0 ⟨rfl, rfl, rfl, rfl, trivial⟩ rfl (Nat.zero_le _) ?_
  rintro k hk K1 hK1
  by_cases hlt : k < res.1.length
  · obtain ⟨t, ht⟩ := list_get hlt
    have hg := tok_get ht
    refine w_use (fun w hw => (hw.pick 0 rfl).row_some (by first | omega | decide | (simp; done) | (simp <;> omega))) ?_
    rintro ⟨g2, rfl⟩
    refine w_use (fun w hw => (hw.pick 1 rfl).row_some (by first | omega | decide | (simp; done) | (simp <;> omega))) ?_
    rintro ⟨g1, rfl⟩
    refine rr ?_
    refine dr [0, 1, 2, 3, 4, 5, 6, 7, 8] [3, 7] [0, 1] ?_
    refine rr ?_
    exact w_round hK1 (k + 1) (by show k + 1 ≤ res.1.length; omega) (by show res.1.length - (k + 1) < res.1.length - k; omega) rfl ⟨rfl, rfl, rfl, rfl, trivial⟩
  · refine rr ?_
    refine ca [] awakeC ?_
    intro x hx
    try simp only [List.cons_append, List.nil_append, List.append_nil]
    refine rr ?_
    exact we () [] trivial
end Go.Proofs.Yteafgnbkeghmdaa

/- ScanPlaces: the walk. -/
import Derived.Test.YteafgnbkeghmdaaSp2
namespace Go.Proofs.Yteafgnbkeghmdaa
open Go Go.Sx Go.Sx.Chunk
set_option linter.unusedVariables false
set_option linter.unusedSimpArgs false

theorem rising_drop {l : List (Tk × Nat)} {k m : Nat} {t : Tk × Nat} (ht : l[k]? = some t) (h : rising m (l.drop k)) : m ≤ t.2 ∧ rising (t.2 + 1) (l.drop (k + 1)) := by
  obtain ⟨hi, hb⟩ := List.getElem?_eq_some_iff.1 ht
  rw [List.drop_eq_getElem_cons hi, hb] at h
  exact h
set_option maxHeartbeats 4000000 in
theorem places_spec (s : ByteArray) : FnC (α := Unit) Try.prog 7 [.string s] [] [] (fun _ => .bool true) (fun _ => []) (fun _ => True) := by
  refine fn_intro Try.func7 Try.ntmps7 rfl rfl rfl (fun w0 => ?_)
  try simp only [List.cons_append, List.nil_append, List.append_nil]
  by_cases hs : 2048 < s.size
  · refine rr ?_
    refine ca [] awakeC ?_
    intro x hx
    try simp only [List.cons_append, List.nil_append, List.append_nil]
    refine rr ?_
    exact we () [] trivial
  refine rr ?_
  refine ca [] (scanC s (by omega)) ?_
  intro x hx
  try simp only [List.cons_append, List.nil_append, List.append_nil]
  obtain ⟨a1, c1⟩ := x
  dsimp only
  obtain ⟨hst, hris, hbad⟩ := scan_all (txt s)
  rw [txt_len] at hbad
  have hres := scanD_res _ 0 (txt s) (Nat.le_refl _)
  have hmany := scanD_len _ 0 (txt s) (Nat.le_refl _)
  rw [txt_len] at hmany
  unfold scanV
  generalize scanD 0 (txt s) = res at hst hris hbad hres hmany
  have hlen := tokC_len res.1
  by_cases he : res.2.2 = 0
  · have he0 : (res.2.2 != 0) = false := by rw [he]; decide
    refine rr ?_
    refine w_loop (α := Nat × Nat) (fun x => [(0, .string s), (6, .int .i64 ((x.2 : Int) - 1)), (37, .slice a1 res.1.length c1), (38, .int .i64 (res.1.length : Int)), (39, .int .i64 (x.1 : Int))]) (fun _ => [row a1 c1 32 4 res.1.length (tokC res.1)]) (fun x => x.1 ≤ res.1.length ∧ x.2 ≤ s.size ∧ rising x.2 (res.1.drop x.1)) (fun x => res.1.length - x.1) (0, 0) ⟨rfl, rfl, rfl, rfl, rfl, trivial⟩ rfl ⟨Nat.zero_le _, Nat.zero_le _, hris⟩ ?_
    rintro ⟨k, m⟩ ⟨hk, hm, hr⟩ K1 hK1
    dsimp only at hk hm hr ⊢
    by_cases hlt : k < res.1.length
    · obtain ⟨t, ht⟩ := list_get hlt
      have hg := tok_get ht
      obtain ⟨hr1, hr2⟩ := rising_drop ht hr
      have hmem : t ∈ res.1 := List.mem_of_getElem? ht
      obtain ⟨s1, s2, s3, s4, s5, s6⟩ := hst t hmem
      rw [txt_len] at s1
      have hsz := bs_size t.1.text
      obtain ⟨⟨kind, text, num⟩, pl⟩ := t
      dsimp only at s1 s2 s3 s4 s5 s6 hr1 hr2 hsz
      simp only [Tk.cells] at hg
      have hk3 : kind = 1 ∨ kind = 2 ∨ kind = 3 := by omega
      refine w_use (fun w hw => (hw.pick 0 rfl).row_some (by first | omega | decide | (simp; done) | (simp <;> omega))) ?_
      rintro ⟨g1, rfl⟩
      refine rr ?_
      intro b _
      rcases hk3 with rfl | rfl | rfl
      · obtain rfl := s5 (by decide)
        refine rr ?_
        refine dr [0, 1, 2, 3, 4, 5, 6, 7, 8, 9, 10, 11, 12, 13, 14, 15, 16, 17, 18, 19, 20, 21, 22, 23, 24, 25, 26, 27, 28, 29, 30, 31, 32, 33, 34, 35, 36, 37, 38, 39, 40, 41, 42, 43, 44, 45, 46, 47] [1, 6, 8, 10, 15, 20, 24, 30, 34, 38, 43] [0] ?_
        refine rr ?_
        refine w_sub [1] rfl ?_
        exact w_round hK1 (k + 1, pl + 1) ⟨by show k + 1 ≤ res.1.length; omega, by show pl + 1 ≤ s.size; omega, hr2⟩ (by show res.1.length - (k + 1) < res.1.length - k; omega) rfl ⟨rfl, by show some (Value.int IntKind.i64 (pl : Int)) = _; rw [show (pl : Int) = ((pl + 1 : Nat) : Int) - 1 by omega], rfl, rfl, rfl, trivial⟩
      · obtain ⟨rfl, h0, h1⟩ := s6 rfl
        refine rr ?_
        refine dr [0, 1, 2, 3, 4, 5, 6, 7, 8, 9, 10, 11, 12, 13, 14, 15, 16, 17, 18, 19, 20, 21, 22, 23, 24, 25, 26, 27, 28, 29, 30, 31, 32, 33, 34, 35, 36, 37, 38, 39, 40, 41, 42, 43, 44, 45, 46, 47] [1, 6, 8, 10, 15, 20, 24, 30, 34, 38, 43] [0] ?_
        refine rr ?_
        refine w_sub [1] rfl ?_
        exact w_round hK1 (k + 1, pl + 1) ⟨by show k + 1 ≤ res.1.length; omega, by show pl + 1 ≤ s.size; omega, hr2⟩ (by show res.1.length - (k + 1) < res.1.length - k; omega) rfl ⟨rfl, by show some (Value.int IntKind.i64 (pl : Int)) = _; rw [show (pl : Int) = ((pl + 1 : Nat) : Int) - 1 by omega], rfl, rfl, rfl, trivial⟩
      · obtain rfl := s5 (by decide)
        have heq : s.extract (pl : Int).toNat ((pl : Int) + ((bs text).size : Int)).toNat = bs text := by
          have e1 : (pl : Int).toNat = pl := by omega
          have e2 : ((pl : Int) + ((bs text).size : Int)).toNat = pl + text.length := by rw [hsz]; omega
          rw [e1, e2, take_drop, s4 rfl]
        have hdec : decide (s.extract (pl : Int).toNat ((pl : Int) + ((bs text).size : Int)).toNat = bs text) = true := decide_eq_true heq
        refine rr ?_
        refine dr [0, 1, 2, 3, 4, 5, 6, 7, 8, 9, 10, 11, 12, 13, 14, 15, 16, 17, 18, 19, 20, 21, 22, 23, 24, 25, 26, 27, 28, 29, 30, 31, 32, 33, 34, 35, 36, 37, 38, 39, 40, 41, 42, 43, 44, 45, 46, 47] [1, 6, 8, 10, 15, 20, 24, 30, 34, 38, 43] [0] ?_
        refine rr ?_
        rw [hdec]
        refine rr ?_
        refine w_sub [1] rfl ?_
        exact w_round hK1 (k + 1, pl + 1) ⟨by show k + 1 ≤ res.1.length; omega, by show pl + 1 ≤ s.size; omega, hr2⟩ (by show res.1.length - (k + 1) < res.1.length - k; omega) rfl ⟨rfl, by show some (Value.int IntKind.i64 (pl : Int)) = _; rw [show (pl : Int) = ((pl + 1 : Nat) : Int) - 1 by omega], rfl, rfl, rfl, trivial⟩
    · refine rr ?_
      refine ca [] awakeC ?_
      intro x hx
      try simp only [List.cons_append, List.nil_append, List.append_nil]
      refine rr ?_
      exact we () [] trivial
  · have hne0 : (res.2.2 != 0) = true := by simp [he]
    have hb := hbad he
    rcases hres with h | h
    · exact absurd h he
    · rw [h]
      refine rr ?_
      refine ca [] awakeC ?_
      intro x hx
      try simp only [List.cons_append, List.nil_append, List.append_nil]
      refine rr ?_
      exact we () [] trivial
end Go.Proofs.Yteafgnbkeghmdaa

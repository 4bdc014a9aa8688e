/- ScanWords: the walk. -/
import Derived.Test.YteafgnbkeghmdaaSn10
namespace Go.Proofs.Yteafgnbkeghmdaa
open Go Go.Sx Go.Sx.Chunk
set_option linter.unusedVariables false
set_option linter.unusedSimpArgs false

def u16C (n : Int) : List Value := [.int .u16 n]
/-- The numbers that are told. -/
def numsW (l : List Int) : List Nat := (l.take 50).map fun z => (z % 32768).toNat
theorem numsW_len (l : List Int) : (numsW l).length = min 50 l.length := by simp [numsW]
theorem numsW_le (l : List Int) (n : Nat) (h : n ∈ numsW l) : n ≤ 32767 := by
  simp only [numsW, List.mem_map] at h
  obtain ⟨z, _, rfl⟩ := h
  omega
theorem numsW_get {l : List Int} {k : Nat} {z : Int} (h : l[k]? = some z) (hk : k < 50) : (numsW l)[k]? = some (z % 32768).toNat := by
  simp only [numsW, List.getElem?_map, List.getElem?_take, if_pos hk, h, Option.map_some]
theorem u16_get {l : List Int} {k : Nat} {z : Int} (h : l[k]? = some z) : (l.flatMap u16C)[k]? = some (.int .u16 z) := by
  have := flat_at (cells := u16C) (sz := 1) (fun _ => rfl) h (j := 0) (by decide)
  simpa [u16C] using this
theorem wordsL_len (l : List Nat) (h : ∀ n ∈ l, n ≤ 32767) : (wordsL l).length ≤ 13 * l.length := by
  induction l with
  | nil => simp [wordsL]
  | cons n l ih =>
    have h1 := ih (fun m hm => h m (by simp [hm]))
    have h2 := (digL_len n).2 (by have := h n (by simp); omega)
    simp only [wordsL, List.flatMap_cons, List.length_append, List.length_cons] at h1 ⊢
    have : (wordL n).length = 2 * (digL n).length + 3 := by simp [wordL]; omega
    omega
theorem wordsL_snoc {l : List Nat} {k n : Nat} (h : l[k]? = some n) : wordsL (l.take (k + 1)) = wordsL (l.take k) ++ wordL n := by
  obtain ⟨hk, hb⟩ := List.getElem?_eq_some_iff.1 h
  rw [List.take_succ_eq_append_getElem hk, hb]
  simp [wordsL]
set_option maxHeartbeats 4000000 in
theorem words_spec (ao : Option Addr) (cap : Nat) (l : List Int) (hw : ∀ z ∈ l, inK .u16 z) (hm : l.length ≤ maxLen) : FnC (α := Unit) Try.prog 5 [.slice ao l.length cap] [] [rng ao (l.flatMap u16C)] (fun _ => .bool true) (fun _ => []) (fun _ => True) := by
  have hlen := flat_len (cells := u16C) (sz := 1) (fun _ => rfl) l
  have hz0 : ∀ z ∈ l, 0 ≤ z ∧ z ≤ 65535 := fun z hz => by
    have := hw z hz
    simp [inK, IntKind.min, IntKind.max, IntKind.signed, IntKind.bits] at this
    exact this
  unfold maxLen at hm
  have hnl := numsW_len l
  have hne : ByteArray.empty = bs [] := rfl
  refine fn_intro Try.func5 Try.ntmps5 rfl rfl rfl (fun w0 => ?_)
  try simp only [List.cons_append, List.nil_append, List.append_nil]
  refine rr ?_
  refine w_loop (α := Nat) (fun k => [(0, .slice ao l.length cap), (3, .string (bs (wordsL ((numsW l).take k)))), (4, .int .i64 (k : Int))]) (fun _ => [rng ao (l.flatMap u16C)]) (fun k => k ≤ l.length ∧ k ≤ 50) (fun k => 50 - k) 0 ⟨rfl, rfl, rfl, trivial⟩ rfl ⟨Nat.zero_le _, by decide⟩ ?_
  rintro k ⟨hk, hk50⟩ K1 hK1
  have hsz := bs_size (wordsL ((numsW l).take k))
  have hwl := wordsL_len ((numsW l).take k) (fun n hn => numsW_le l n (List.mem_of_mem_take hn))
  have htl : ((numsW l).take k).length ≤ k := List.length_take_le _ _
  by_cases hlt : k < l.length
  · by_cases hlt2 : k < 50
    · obtain ⟨z, hz⟩ := list_get hlt
      obtain ⟨z0, z1⟩ := hz0 z (List.mem_of_getElem? hz)
      obtain ⟨n, hn⟩ : ∃ n : Nat, z % 32768 = (n : Int) := ⟨(z % 32768).toNat, by omega⟩
      have hg := numsW_get hz hlt2
      rw [hn, Int.toNat_natCast] at hg
      have hcell : (l.flatMap u16C)[(k : Int).toNat * 1]? = some (.int .u16 z) := by
        rw [show (k : Int).toNat * 1 = k by omega]; exact u16_get hz
      have hd5 := (digL_len n).2 (by omega)
      have hds := bs_size (digL n)
      refine w_use (fun w hw => (hw.pick 0 rfl).rng_some (by first | omega | decide | (simp; done) | (simp <;> omega))) ?_
      rintro ⟨a, rfl⟩
      refine rr ?_
      rw [hn]
      refine ca [] (digitsC n (by omega)) ?_
      intro x hx
      try simp only [List.cons_append, List.nil_append, List.append_nil]
      refine rr ?_
      refine w_round hK1 (k + 1) ⟨by omega, by omega⟩ (by omega) rfl ⟨rfl, ?_, rfl, trivial⟩
      show some (Value.string (bs (wordsL ((numsW l).take k)) ++ (bs [78] ++ bs (digL n) ++ bs [10] ++ bs (digL n) ++ bs [32]))) = _
      rw [wordsL_snoc hg, bs_append, bs_append, bs_append, bs_append, bs_append]
      simp [wordL]
    · have hall : (numsW l).take k = numsW l := List.take_of_length_le (by rw [hnl]; omega)
      rw [hall]
      rw [hall] at hsz hwl
      have hsc : scanD 0 (txt (bs (wordsL (numsW l)))) = (wordsT 0 (numsW l), 0, 0) := by rw [txt_bs]; exact scan_words _ 0 (numsW_le l)
      have hmn : (numsW l).length = min 50 l.length := hnl
      refine rr ?_
      refine ca [] (scanC (bs (wordsL (numsW l))) (by omega)) ?_
      intro x hx
      try simp only [List.cons_append, List.nil_append, List.append_nil]
      obtain ⟨a1, c1⟩ := x
      rw [hsc]
      unfold scanV
      dsimp only
      have htl2 := wordsT_len (numsW l) 0
      have hlenT := tokC_len (wordsT 0 (numsW l))
      have hcnt : (((wordsT 0 (numsW l)).length : Int) != 2 * min (l.length : Int) 50) = false := by simp; omega
      refine rr ?_
      refine w_loop (α := Nat) (fun j => [(0, .slice ao l.length cap), (6, .slice a1 (wordsT 0 (numsW l)).length c1), (9, .int .i64 (2 * (j : Int)))]) (fun _ => [row a1 c1 32 4 (wordsT 0 (numsW l)).length (tokC (wordsT 0 (numsW l))), rng ao (l.flatMap u16C)]) (fun j => j ≤ (numsW l).length) (fun j => (numsW l).length - j) 0 ⟨rfl, rfl, rfl, trivial⟩ rfl (Nat.zero_le _) ?_
      rintro j hj K2 hK2
      by_cases hlt3 : j < (numsW l).length
      · obtain ⟨z, hz⟩ := list_get (l := l) (k := j) (by omega)
        obtain ⟨z0, z1⟩ := hz0 z (List.mem_of_getElem? hz)
        obtain ⟨n, hn⟩ : ∃ n : Nat, z % 32768 = (n : Int) := ⟨(z % 32768).toNat, by omega⟩
        have hg := numsW_get hz (show j < 50 by omega)
        rw [hn, Int.toNat_natCast] at hg
        obtain ⟨q1, q2, ht1, ht2⟩ := wordsT_get (p := 0) hg
        have f1 : (tokC (wordsT 0 (numsW l)))[0 + (2 * (j : Int)).toNat * 4 + 0]? = some (.int .i64 1) := by
          rw [show 0 + (2 * (j : Int)).toNat * 4 + 0 = 4 * (2 * j) + 0 by omega, tokC_at ht1 0 (by decide)]; rfl
        have f2 : (tokC (wordsT 0 (numsW l)))[0 + (2 * (j : Int)).toNat * 4 + 1]? = some (.string (bs (110 :: digL n))) := by
          rw [show 0 + (2 * (j : Int)).toNat * 4 + 1 = 4 * (2 * j) + 1 by omega, tokC_at ht1 1 (by decide)]; rfl
        have f3 : (tokC (wordsT 0 (numsW l)))[0 + (2 * (j : Int) + 1).toNat * 4 + 0]? = some (.int .i64 2) := by
          rw [show 0 + (2 * (j : Int) + 1).toNat * 4 + 0 = 4 * (2 * j + 1) + 0 by omega, tokC_at ht2 0 (by decide)]; rfl
        have f4 : (tokC (wordsT 0 (numsW l)))[0 + (2 * (j : Int) + 1).toNat * 4 + 2]? = some (.int .i64 (n : Int)) := by
          rw [show 0 + (2 * (j : Int) + 1).toNat * 4 + 2 = 4 * (2 * j + 1) + 2 by omega, tokC_at ht2 2 (by decide)]; rfl
        have hcell : (l.flatMap u16C)[(2 * (j : Int) / 2).toNat * 1]? = some (.int .u16 z) := by
          rw [show (2 * (j : Int) / 2).toNat * 1 = j by omega]; exact u16_get hz
        have hd5 := (digL_len n).2 (by omega)
        have hds := bs_size (digL n)
        have heq : (⟨#[110]⟩ : ByteArray) ++ bs (digL n) = bs (110 :: digL n) := by
          show bs [110] ++ bs (digL n) = _
          rw [bs_append]; rfl
        refine w_use (fun w hw => (hw.pick 1 rfl).rng_some (by first | omega | decide | (simp; done) | (simp <;> omega))) ?_
        rintro ⟨a, rfl⟩
        refine w_use (fun w hw => (hw.pick 0 rfl).row_some (by first | omega | decide | (simp; done) | (simp <;> omega))) ?_
        rintro ⟨g, rfl⟩
        refine rr ?_
        rw [hn]
        refine rr ?_
        refine dr [0, 1, 2, 3, 4, 5, 6, 7, 8, 9, 10, 11, 12, 13, 14, 15, 16, 17, 18, 19, 20, 21, 22, 23, 24, 25, 26, 27, 28, 29, 30, 31, 32, 33, 34, 35] [4, 11, 23, 32] [0] ?_
        refine rr ?_
        refine cad [] (digitsC n (by omega)) ?_
        intro x hx
        try simp only [List.cons_append, List.nil_append, List.append_nil]
        refine rr ?_
        rw [heq]
        refine rr ?_
        refine w_round hK2 (j + 1) (by show j + 1 ≤ (numsW l).length; omega) (by show (numsW l).length - (j + 1) < (numsW l).length - j; omega) rfl ⟨rfl, rfl, ?_, trivial⟩
        show some (Value.int IntKind.i64 (2 * (j : Int) + 2)) = _
        rw [show 2 * (j : Int) + 2 = 2 * ((j + 1 : Nat) : Int) by omega]
      · refine rr ?_
        refine ca [] awakeC ?_
        intro x hx
        try simp only [List.cons_append, List.nil_append, List.append_nil]
        refine rr ?_
        exact we () [] trivial
  · have hall : (numsW l).take k = numsW l := List.take_of_length_le (by rw [hnl]; omega)
    rw [hall]
    rw [hall] at hsz hwl
    have hsc : scanD 0 (txt (bs (wordsL (numsW l)))) = (wordsT 0 (numsW l), 0, 0) := by rw [txt_bs]; exact scan_words _ 0 (numsW_le l)
    have hmn : (numsW l).length = min 50 l.length := hnl
    refine rr ?_
    refine ca [] (scanC (bs (wordsL (numsW l))) (by omega)) ?_
    intro x hx
    try simp only [List.cons_append, List.nil_append, List.append_nil]
    obtain ⟨a1, c1⟩ := x
    rw [hsc]
    unfold scanV
    dsimp only
    have htl2 := wordsT_len (numsW l) 0
    have hlenT := tokC_len (wordsT 0 (numsW l))
    have hcnt : (((wordsT 0 (numsW l)).length : Int) != 2 * min (l.length : Int) 50) = false := by simp; omega
    refine rr ?_
    refine w_loop (α := Nat) (fun j => [(0, .slice ao l.length cap), (6, .slice a1 (wordsT 0 (numsW l)).length c1), (9, .int .i64 (2 * (j : Int)))]) (fun _ => [row a1 c1 32 4 (wordsT 0 (numsW l)).length (tokC (wordsT 0 (numsW l))), rng ao (l.flatMap u16C)]) (fun j => j ≤ (numsW l).length) (fun j => (numsW l).length - j) 0 ⟨rfl, rfl, rfl, trivial⟩ rfl (Nat.zero_le _) ?_
    rintro j hj K2 hK2
    by_cases hlt3 : j < (numsW l).length
    · obtain ⟨z, hz⟩ := list_get (l := l) (k := j) (by omega)
      obtain ⟨z0, z1⟩ := hz0 z (List.mem_of_getElem? hz)
      obtain ⟨n, hn⟩ : ∃ n : Nat, z % 32768 = (n : Int) := ⟨(z % 32768).toNat, by omega⟩
      have hg := numsW_get hz (show j < 50 by omega)
      rw [hn, Int.toNat_natCast] at hg
      obtain ⟨q1, q2, ht1, ht2⟩ := wordsT_get (p := 0) hg
      have f1 : (tokC (wordsT 0 (numsW l)))[0 + (2 * (j : Int)).toNat * 4 + 0]? = some (.int .i64 1) := by
        rw [show 0 + (2 * (j : Int)).toNat * 4 + 0 = 4 * (2 * j) + 0 by omega, tokC_at ht1 0 (by decide)]; rfl
      have f2 : (tokC (wordsT 0 (numsW l)))[0 + (2 * (j : Int)).toNat * 4 + 1]? = some (.string (bs (110 :: digL n))) := by
        rw [show 0 + (2 * (j : Int)).toNat * 4 + 1 = 4 * (2 * j) + 1 by omega, tokC_at ht1 1 (by decide)]; rfl
      have f3 : (tokC (wordsT 0 (numsW l)))[0 + (2 * (j : Int) + 1).toNat * 4 + 0]? = some (.int .i64 2) := by
        rw [show 0 + (2 * (j : Int) + 1).toNat * 4 + 0 = 4 * (2 * j + 1) + 0 by omega, tokC_at ht2 0 (by decide)]; rfl
      have f4 : (tokC (wordsT 0 (numsW l)))[0 + (2 * (j : Int) + 1).toNat * 4 + 2]? = some (.int .i64 (n : Int)) := by
        rw [show 0 + (2 * (j : Int) + 1).toNat * 4 + 2 = 4 * (2 * j + 1) + 2 by omega, tokC_at ht2 2 (by decide)]; rfl
      have hcell : (l.flatMap u16C)[(2 * (j : Int) / 2).toNat * 1]? = some (.int .u16 z) := by
        rw [show (2 * (j : Int) / 2).toNat * 1 = j by omega]; exact u16_get hz
      have hd5 := (digL_len n).2 (by omega)
      have hds := bs_size (digL n)
      have heq : (⟨#[110]⟩ : ByteArray) ++ bs (digL n) = bs (110 :: digL n) := by
        show bs [110] ++ bs (digL n) = _
        rw [bs_append]; rfl
      refine w_use (fun w hw => (hw.pick 1 rfl).rng_some (by first | omega | decide | (simp; done) | (simp <;> omega))) ?_
      rintro ⟨a, rfl⟩
      refine w_use (fun w hw => (hw.pick 0 rfl).row_some (by first | omega | decide | (simp; done) | (simp <;> omega))) ?_
      rintro ⟨g, rfl⟩
      refine rr ?_
      rw [hn]
      refine rr ?_
      refine dr [0, 1, 2, 3, 4, 5, 6, 7, 8, 9, 10, 11, 12, 13, 14, 15, 16, 17, 18, 19, 20, 21, 22, 23, 24, 25, 26, 27, 28, 29, 30, 31, 32, 33, 34, 35] [4, 11, 23, 32] [0] ?_
      refine rr ?_
      refine cad [] (digitsC n (by omega)) ?_
      intro x hx
      try simp only [List.cons_append, List.nil_append, List.append_nil]
      refine rr ?_
      rw [heq]
      refine rr ?_
      refine w_round hK2 (j + 1) (by show j + 1 ≤ (numsW l).length; omega) (by show (numsW l).length - (j + 1) < (numsW l).length - j; omega) rfl ⟨rfl, rfl, ?_, trivial⟩
      show some (Value.int IntKind.i64 (2 * (j : Int) + 2)) = _
      rw [show 2 * (j : Int) + 2 = 2 * ((j + 1 : Nat) : Int) by omega]
    · refine rr ?_
      refine ca [] awakeC ?_
      intro x hx
      try simp only [List.cons_append, List.nil_append, List.append_nil]
      refine rr ?_
      exact we () [] trivial
end Go.Proofs.Yteafgnbkeghmdaa

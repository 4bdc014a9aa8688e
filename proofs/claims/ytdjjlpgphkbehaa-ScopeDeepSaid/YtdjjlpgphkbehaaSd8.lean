/- ScopeDeep: the walk and its plain law. -/
import Derived.Test.YtdjjlpgphkbehaaSd6
namespace Go.Proofs.Ytdjjlpgphkbehaa
open Go Go.Sx Go.Sx.Chunk
set_option linter.unusedVariables false
set_option linter.unusedSimpArgs false

def rep (name : ByteArray) (k : Nat) : List Ent := (List.range k).map fun (j : Nat) => (name, (j : Int))
theorem rep_len (name : ByteArray) (k : Nat) : (rep name k).length = k := by simp [rep]
theorem rep_get (name : ByteArray) {k j : Nat} (h : j < k) : (rep name k).getD j e0 = (name, (j : Int)) := by simp [rep, h]
theorem rep_succ (name : ByteArray) (k : Nat) : rep name (k + 1) = rep name k ++ [(name, (k : Int))] := by simp [rep, List.range_succ]
theorem rep_last (name : ByteArray) (k : Nat) : lastI (rep name (k + 1)) name (k + 1) = some k :=
  lastI_intro (by omega) (by rw [rep_get name (by omega)]) (fun j h1 h2 => by omega)
theorem range_get {m j : Nat} (h : j < m) : (List.range m).getD j 0 = j := by simp [h]
theorem decD_one (m k : Nat) (h : k ≤ m) : decD (List.range (m + 1)) k (k + 1) = k + 1 := by
  simp only [decD]
  rw [range_get (by omega), if_neg (by omega)]
theorem find_same (name : ByteArray) (k : Nat) : findT (rep name (k + 1)) (List.range (k + 1)) name = ((k : Int), k + 1, true) := by
  rw [findT_eq, rep_len, rep_last, List.length_range]
  simp only [rep_get name (show k < k + 1 by omega), decD_one k k (by omega)]
theorem find_more (name : ByteArray) (k : Nat) : findT (rep name (k + 1)) (List.range (k + 2)) name = ((k : Int), k + 1, true) := by
  rw [findT_eq, rep_len, rep_last, List.length_range]
  have h : decD (List.range (k + 2)) k (k + 2) = k + 1 := by
    rw [show k + 2 = (k + 1) + 1 from rfl]
    simp only [decD]
    rw [range_get (by omega), if_pos (by omega), range_get (by omega), if_neg (by omega)]
  simp only [rep_get name (show k < k + 1 by omega), h]
theorem find_none (bs : List Nat) (name : ByteArray) : findT [] bs name = (0, 0, false) := rfl
theorem def_yes (name : ByteArray) (k : Nat) : defOk (rep name k) (List.range (k + 1)) name = true := by
  unfold defOk
  rw [show findG (rep name k) (List.range (k + 1)) name (rep name k).length (List.range (k + 1)).length = findT (rep name k) (List.range (k + 1)) name from rfl]
  cases k with
  | zero => rw [show rep name 0 = [] from rfl, find_none]; simp
  | succ k => rw [find_more]; simp
theorem def_no (name : ByteArray) (k : Nat) : defOk (rep name (k + 1)) (List.range (k + 1)) name = false := by
  unfold defOk
  rw [show findG (rep name (k + 1)) (List.range (k + 1)) name (rep name (k + 1)).length (List.range (k + 1)).length = findT (rep name (k + 1)) (List.range (k + 1)) name from rfl, find_same]
  simp
theorem okT_range (name : ByteArray) {k m : Nat} (h : k ≤ 1000) (hm : m ≤ k + 1) : okT (rep name k) (List.range m) := by
  refine ⟨by rw [rep_len]; omega, by rw [List.length_range]; omega, fun v hv => ?_⟩
  rw [rep_len]
  have := List.mem_range.1 hv
  omega

set_option maxHeartbeats 8000000 in
theorem deep_spec (c : Int) (name : ByteArray) (hc0 : 0 ≤ c) (hc1 : c ≤ 255) :
    FnC (α := Unit) Try.prog 4 [.int .u8 c, .string name] [] [] (fun _ => .bool true) (fun _ => []) (fun _ => True) := by
  obtain ⟨many, hmany, hsmall⟩ : ∃ many : Nat, c.tmod 51 = many ∧ many ≤ 50 := by
    refine ⟨(c.tmod 51).toNat, ?_, ?_⟩
    · have := Int.tmod_nonneg 51 hc0; omega
    · have := Int.tmod_lt_of_pos c (show (0 : Int) < 51 by decide); omega
  refine fn_intro Try.func4 Try.ntmps4 rfl rfl rfl (fun w0 => ?_)
  try simp only [List.cons_append, List.nil_append, List.append_nil]
  refine rr ?_
  intro b _
  refine w_turn (fun w hw => ((hw.row_nil 3 1).row_nil 51 2).sub [2, 0, 0] (A := tbH b [] [] ⟨none, 0, none, 0⟩) rfl) ?_
  refine rr ?_
  have hwr : IntKind.i64.wrap (c.tmod 51) = many := by rw [hmany]; exact wrap_in (inK_i64 (by omega) (by omega))
  rw [hwr]
  refine w_loop (α := Nat × Cp) (fun x => [(0, .int .u8 c), (1, .string name), (5, ptrV b), (6, .int .i64 many), (18, .int .i64 many), (19, .int .i64 (x.1 : Int))])
    (fun x => tbH b (rep name x.1) (List.range x.1) x.2) (fun x => x.1 ≤ many) (fun x => many - x.1) (0, _) ⟨rfl, rfl, rfl, rfl, rfl, rfl, trivial⟩ rfl (Nat.zero_le _) ?_
  rintro ⟨k, x⟩ hk K1 hK1
  dsimp only at hk ⊢
  by_cases hkn : k < many
  · refine rr ?_
    refine ca [0, 0, 0] (openC b _ (rep name k) (List.range k) (List.range (k + 1)) (okT_range name (by omega) (by omega)) (by rw [rep_len, List.range_succ])) ?_
    intro x hx
    try simp only [List.cons_append, List.nil_append, List.append_nil]
    refine rr ?_
    refine ca [0, 0, 0] (defineC b _ (rep name k) (rep name (k + 1)) (List.range (k + 1)) name (k : Int) true (okT_range name (by omega) (by omega)) (def_yes name k) (by unfold defE; rw [def_yes, rep_succ]; rfl)) ?_
    intro x hx
    try simp only [List.cons_append, List.nil_append, List.append_nil]
    refine rr ?_
    refine ca [0, 0, 0] (defineC b _ (rep name (k + 1)) (rep name (k + 1)) (List.range (k + 1)) name (-1) false (okT_range name (by omega) (by omega)) (def_no name k) (by unfold defE; rw [def_no]; rfl)) ?_
    intro x hx
    try simp only [List.cons_append, List.nil_append, List.append_nil]
    refine rr ?_
    refine ca [0, 0, 0] (depthC b _ (rep name (k + 1)) (List.range (k + 1))) ?_
    intro x hx
    try simp only [List.cons_append, List.nil_append, List.append_nil]
    refine rr ?_
    exact w_round hK1 (k + 1, x) (by show k + 1 ≤ many; omega) (by show many - (k + 1) < many - k; omega) rfl ⟨rfl, rfl, rfl, rfl, rfl, rfl, trivial⟩
  · obtain rfl : k = many := by omega
    refine rr ?_
    refine w_loop (α := Nat × Cp) (fun x => [(1, .string name), (5, ptrV b), (8, .int .i64 ((x.1 : Int) - 1))])
      (fun x => tbH b (rep name x.1) (List.range x.1) x.2) (fun x => x.1 ≤ k) (fun x => x.1) (k, x) ⟨rfl, rfl, rfl, trivial⟩ rfl (Nat.le_refl _) ?_
    rintro ⟨m, x⟩ hm K2 hK2
    dsimp only at hm ⊢
    cases m with
    | succ m =>
      rw [show (((m + 1 : Nat) : Int) - 1) = m by omega]
      refine rr ?_
      refine ca [0, 0, 0] (findC b _ (rep name (m + 1)) (List.range (m + 1)) name _ (okT_range name (by omega) (by omega)) (find_same name m)) ?_
      intro x hx
      try simp only [List.cons_append, List.nil_append, List.append_nil]
      refine rr ?_
      refine ca [0, 0, 0] (closeC b _ (rep name (m + 1)) (rep name m) (List.range (m + 1)) (List.range m) true (okT_range name (by omega) (by omega)) (by simp) (by unfold clsE; rw [List.length_range, if_neg (by omega), List.range_succ]; simp [rep_succ, rep_len]) (by simp [List.range_succ])) ?_
      intro x hx
      try simp only [List.cons_append, List.nil_append, List.append_nil]
      refine rr ?_
      exact w_round hK2 (m, x) (by show m ≤ k; omega) (by show m < m + 1; omega) rfl ⟨rfl, rfl, rfl, trivial⟩
    | zero =>
      refine rr ?_
      refine ca [0, 0, 0] (findC b _ [] [] name (0, 0, false) (by decide) rfl) ?_
      intro x hx
      try simp only [List.cons_append, List.nil_append, List.append_nil]
      refine rr ?_
      refine ca [0, 0, 0] (closeC b _ [] [] [] [] false (by decide) rfl rfl rfl) ?_
      intro x hx
      try simp only [List.cons_append, List.nil_append, List.append_nil]
      refine rr ?_
      refine ca [0, 0, 0] (depthC b _ [] []) ?_
      intro x hx
      try simp only [List.cons_append, List.nil_append, List.append_nil]
      refine rr ?_
      refine ca [] awake_spec ?_
      intro x hx
      try simp only [List.cons_append, List.nil_append, List.append_nil]
      refine rr ?_
      exact w_end1 () [] (.inl rfl) rfl rfl rfl rfl trivial
end Go.Proofs.Ytdjjlpgphkbehaa

/- Contracts of package scan: all tokens. -/
import Derived.Test.YteafgnbkeghmdaaSn7
namespace Go.Proofs.Yteafgnbkeghmdaa
open Go Go.Sx Go.Sx.Chunk
set_option linter.unusedVariables false
set_option linter.unusedSimpArgs false

abbrev ScanRes := List (Tk × Nat) × Nat × Int
def scanD (p : Nat) (l : List UInt8) : ScanRes := scanR l.length p l
def consT (t : Tk × Nat) (r : ScanRes) : ScanRes := if r.2.2 = 0 then (t :: r.1, r.2) else ([], r.2)
def comb (l0 : List (Tk × Nat)) (r : ScanRes) : ScanRes := if r.2.2 = 0 then (l0 ++ r.1, r.2) else ([], r.2)
theorem scanD_nil (p : Nat) : scanD p [] = ([], 0, 0) := rfl
theorem scanD_cons (p : Nat) (c : UInt8) (r : List UInt8) : scanD p (c :: r) =
    if isBlank c then scanD (p + 1) r
    else if c = 123 then
      (if Lib.indexByte (c :: r) 125 < 0 then ([], p, 2) else scanD (p + (Lib.indexByte (c :: r) 125).toNat + 1) ((c :: r).drop ((Lib.indexByte (c :: r) 125).toNat + 1)))
    else if (tokR (c :: r)).2.2 ≠ 0 then ([], p, (tokR (c :: r)).2.2)
    else consT ((tokR (c :: r)).1, p) (scanD (p + (tokR (c :: r)).2.1) ((c :: r).drop (tokR (c :: r)).2.1)) := by
  unfold scanD
  simp only [List.length_cons, scanR]
  split
  · rfl
  · split
    · split
      · rfl
      · exact scanR_fuel _ _ _ _ (by simp) (Nat.le_refl _)
    · split
      · rfl
      · rename_i h
        have hl := tokR_len (c := c) (r := r) (by simpa using h)
        rw [scanR_fuel r.length ((c :: r).drop (tokR (c :: r)).2.1).length _ _ (by simp; omega) (Nat.le_refl _)]
        rfl
theorem comb_nil (r : ScanRes) (h : r.2.2 = 0 ∨ r.1 = []) : comb [] r = r := by
  unfold comb
  split
  · rfl
  · rename_i h2
    rcases h with h | h
    · exact absurd h h2
    · rw [← h]
theorem comb_cons (l0 : List (Tk × Nat)) (t : Tk × Nat) (r : ScanRes) : comb l0 (consT t r) = comb (l0 ++ [t]) r := by
  unfold comb consT
  by_cases h : r.2.2 = 0 <;> simp [h]
theorem scanD_res : ∀ (n p : Nat) (l : List UInt8), l.length ≤ n → (scanD p l).2.2 = 0 ∨ (scanD p l).1 = []
  | n, p, [], _ => .inl rfl
  | 0, p, c :: r, h => by simp at h
  | n + 1, p, c :: r, h => by
    rw [scanD_cons]
    simp only [List.length_cons, Nat.add_le_add_iff_right] at h
    split
    · exact scanD_res n _ _ h
    · split
      · split
        · exact .inr rfl
        · exact scanD_res n _ _ (by simp; omega)
      · split
        · exact .inr rfl
        · unfold consT
          split
          · rename_i h2; exact .inl h2
          · exact .inr rfl
/-- The cells of tokens. -/
def tokC (l : List (Tk × Nat)) : List Value := l.flatMap fun t => t.1.cells (t.2 : Int)
theorem tokC_app (l m : List (Tk × Nat)) : tokC (l ++ m) = tokC l ++ tokC m := by simp [tokC]
theorem tokC_one (t : Tk) (p : Nat) : tokC [(t, p)] = t.cells (p : Int) := by simp [tokC]
def blanks : ByteArray := ⟨#[32, 9, 10, 13]⟩
theorem blank_iff (b : UInt8) : decide (idxB blanks (b.toNat : Int) ≥ 0) = isBlank b := by
  rw [idxB_nat, Bool.eq_iff_iff, decide_eq_true_eq, indexByte_mem, show txt blanks = [32, 9, 10, 13] from rfl]
  simp [isBlank, Bool.or_assoc]
  
/-- What Scan returns. -/
def scanV (r : ScanRes) (x : Option Addr × Nat) : Value := .tuple #[.slice x.1 r.1.length x.2, .int .i64 (r.2.1 : Int), .int .i64 r.2.2]
set_option maxHeartbeats 4000000 in
theorem scanC (s : ByteArray) (hs : s.size ≤ 1000000) :
    FnC Try.prog 10 [.string s] [] [] (fun (x : Option Addr × Nat) => scanV (scanD 0 (txt s)) x) (fun x => [row x.1 x.2 32 4 (scanD 0 (txt s)).1.length (tokC (scanD 0 (txt s)).1)]) (fun _ => True) := by
  have hmax : s.size ≤ maxLen := by unfold maxLen; omega
  refine fn_intro Try.func10 Try.ntmps10 rfl rfl rfl (fun w0 => ?_)
  try simp only [List.cons_append, List.nil_append, List.append_nil]
  refine rr ?_
  refine w_turn (fun w hw => hw.row_nil 32 4) ?_
  generalize hres : scanD 0 (txt s) = res
  refine w_loop (α := List (Tk × Nat) × Nat × Option Addr × Nat) (fun x => [(0, .string s), (5, .slice x.2.2.1 x.1.length x.2.2.2), (6, .int .i64 (x.2.1 : Int))]) (fun x => [row x.2.2.1 x.2.2.2 32 4 x.1.length (tokC x.1)])
    (fun x => x.2.1 ≤ s.size ∧ x.1.length ≤ x.2.1 ∧ comb x.1 (scanD x.2.1 ((txt s).drop x.2.1)) = res) (fun x => s.size - x.2.1) ([], 0, none, 0) ⟨rfl, rfl, rfl, trivial⟩ rfl ⟨Nat.zero_le _, Nat.le_refl _, by rw [← hres]; exact comb_nil _ (scanD_res _ _ _ (Nat.le_refl _))⟩ ?_
  rintro ⟨l0, p, ao, cap⟩ ⟨hp, hl0, hr⟩ K1 hK1
  dsimp only at hp hl0 hr ⊢
  by_cases hlt : p < s.size
  · obtain ⟨b, hb⟩ := get_some (l := txt s) (i := p) (by rw [txt_len]; exact hlt)
    have hb' : s[(p : Int).toNat]? = some b := by
      rw [show (p : Int).toNat = p by omega]; exact txt_get s _ b hb
    have hdr : (txt s).drop p = b :: (txt s).drop (p + 1) := drop_cons hb
    have hlen : ((txt s).drop p).length = s.size - p := by rw [List.length_drop, txt_len]
    have hidx := indexByte_lt ((txt s).drop p) 125
    rw [hlen] at hidx
    rw [hdr, scanD_cons, ← hdr] at hr
    refine rr ?_
    refine ca [] (idxC blanks (b.toNat : Int)) ?_
    intro x hx
    try simp only [List.cons_append, List.nil_append, List.append_nil]
    refine rr ?_
    rw [blank_iff]
    cases hbl : isBlank b with
    | true =>
      rw [hbl, if_pos rfl] at hr
      refine rr ?_
      refine w_round hK1 (l0, p + 1, ao, cap) ⟨by show p + 1 ≤ s.size; omega, by show l0.length ≤ p + 1; omega, hr⟩ (by show s.size - (p + 1) < s.size - p; omega) rfl ⟨rfl, rfl, rfl, trivial⟩
    | false =>
      rw [hbl, if_neg (by simp)] at hr
      by_cases h123 : b = 123
      · subst h123
        rw [if_pos rfl] at hr
        refine rr ?_
        refine ca [] (idxC (s.extract (p : Int).toNat (s.size : Int).toNat) 125) ?_
        intro x hx
        try simp only [List.cons_append, List.nil_append, List.append_nil]
        have he : idxB (s.extract (p : Int).toNat (s.size : Int).toNat) 125 = Lib.indexByte ((txt s).drop p) 125 := by
          rw [show (p : Int).toNat = p by omega, show (s.size : Int).toNat = s.size by omega, rest_eq]
          show Lib.indexByte _ _ = _
          congr 1
        rw [he]
        by_cases hneg : Lib.indexByte ((txt s).drop p) 125 < 0
        · rw [if_pos hneg] at hr
          refine rr ?_
          refine w_turn (fun w hw => hw.row_nil 32 4) ?_
          subst hr
          exact we (none, 0) [0] trivial
        · rw [if_neg hneg] at hr
          obtain ⟨k, hk⟩ : ∃ k : Nat, Lib.indexByte ((txt s).drop p) 125 = k := ⟨(Lib.indexByte ((txt s).drop p) 125).toNat, by omega⟩
          rw [hk] at hr hidx ⊢
          simp only [Int.toNat_natCast] at hr
          rw [List.drop_drop] at hr
          refine rr ?_
          refine w_round hK1 (l0, p + k + 1, ao, cap) ⟨by show p + k + 1 ≤ s.size; omega, by show l0.length ≤ p + k + 1; omega, hr⟩ (by show s.size - (p + k + 1) < s.size - p; omega) rfl ⟨rfl, rfl, ?_, trivial⟩
          show some (Value.int IntKind.i64 ((p : Int) + ((k : Int) + 1))) = _
          rw [show ((p : Int) + ((k : Int) + 1)) = ((p + k + 1 : Nat) : Int) by omega]
      · rw [if_neg h123] at hr
        have hne : ((b.toNat : Int) == 123) = false := by
          simp only [beq_eq_false_iff_ne, ne_eq]
          intro h
          apply h123
          apply UInt8.toNat_inj.1
          show b.toNat = 123
          omega
        refine rr ?_
        rw [hne]
        refine rr ?_
        refine ca [] (tokenC s p b hmax hb) ?_
        intro x hx
        try simp only [List.cons_append, List.nil_append, List.append_nil]
        have htl : (tokR ((txt s).drop p)).2.2 = 0 → 1 ≤ (tokR ((txt s).drop p)).2.1 ∧ (tokR ((txt s).drop p)).2.1 ≤ s.size - p := by
          rw [← hlen, hdr]; exact tokR_len
        unfold tokV
        generalize tokR ((txt s).drop p) = tk at hr htl
        obtain ⟨t, m, e⟩ := tk
        dsimp only at hr htl ⊢
        by_cases he : e = 0
        · subst he
          obtain ⟨h1, h2⟩ := htl rfl
          rw [if_neg (by simp), comb_cons, List.drop_drop] at hr
          refine rr ?_
          rw [if_pos rfl]
          intro c _
          refine rr ?_
          intro d _
          refine rr ?_
          rintro ⟨a', c'⟩ ⟨hc', _⟩
          dsimp only at hc' ⊢
          refine rr ?_
          refine w_sub [0] rfl ?_
          refine w_round hK1 (l0 ++ [(t, p)], p + m, a', c') ⟨by show p + m ≤ s.size; omega, by simp; omega, hr⟩ (by show s.size - (p + m) < s.size - p; omega) ?_ ⟨rfl, ?_, rfl, trivial⟩
          · rw [tokC_app, tokC_one, List.length_append]; rfl
          · rw [List.length_append]; rfl
        · have hne0 : (e != 0) = true := by simp [he]
          rw [if_pos he] at hr
          refine rr ?_
          intro c _
          refine rr ?_
          rw [hne0]
          refine rr ?_
          refine w_turn (fun w hw => hw.row_nil 32 4) ?_
          have hr2 : res = ([], p, e) := by rw [← hr]; unfold comb; rw [if_neg he]
          subst hr2
          exact we (none, 0) [0] trivial
  · obtain rfl : p = s.size := by omega
    have hr2 : res = (l0, 0, 0) := by rw [← hr, List.drop_of_length_le (by rw [txt_len]; exact Nat.le_refl _)]; unfold comb; simp [scanD_nil]
    subst hr2
    refine rr ?_
    exact we (ao, cap) [0] trivial
end Go.Proofs.Yteafgnbkeghmdaa

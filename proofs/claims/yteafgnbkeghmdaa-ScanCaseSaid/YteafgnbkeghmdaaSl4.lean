/- ScanCase: the walk. -/
import Derived.Test.YteafgnbkeghmdaaSp3
import Derived.Test.YteafgnbkeghmdaaSl2
namespace Go.Proofs.Yteafgnbkeghmdaa
open Go Go.Sx Go.Sx.Chunk
set_option linter.unusedVariables false
set_option linter.unusedSimpArgs false

def upK (l : List UInt8) (k : Nat) : List UInt8 := (l.take k).map upB ++ l.drop k
theorem upK_len (l : List UInt8) (k : Nat) : (upK l k).length = l.length := by simp [upK]; omega
theorem upK_get {l : List UInt8} {k : Nat} {b : UInt8} (h : l[k]? = some b) : (upK l k)[k]? = some b := by
  have hk : k < l.length := (List.getElem?_eq_some_iff.1 h).1
  unfold upK
  rw [List.getElem?_append_right (by simp; omega)]
  simp [Nat.min_eq_left (Nat.le_of_lt hk), h]
theorem upK_succ {l : List UInt8} {k : Nat} {b : UInt8} (h : l[k]? = some b) : upK l (k + 1) = (upK l k).set k (upB b) := by
  obtain ⟨hk, hb⟩ := List.getElem?_eq_some_iff.1 h
  unfold upK
  have hm : ((l.take k).map upB).length = k := by simp; omega
  rw [List.take_succ_eq_append_getElem hk, hb, List.set_append_right _ _ (by omega), hm, Nat.sub_self, drop_cons h]
  simp
set_option maxHeartbeats 4000000 in
theorem case_spec (s : ByteArray) : FnC (α := Unit) Try.prog 6 [.string s] [] [] (fun _ => .bool true) (fun _ => []) (fun _ => True) := by
  refine fn_intro Try.func6 Try.ntmps6 rfl rfl rfl (fun w0 => ?_)
  try simp only [List.cons_append, List.nil_append, List.append_nil]
  by_cases hs : 2048 < s.size
  · refine rr ?_
    refine ca [] awakeC ?_
    intro x hx
    try simp only [List.cons_append, List.nil_append, List.append_nil]
    refine rr ?_
    exact we () [] trivial
  refine rr ?_
  rintro ⟨p, c⟩ ⟨hc, hm⟩
  dsimp only at hc hm ⊢
  have hm := hm (by unfold maxLen; omega)
  unfold maxLen at hm
  generalize List.replicate (c - s.size) (Value.int .u8 0) = rest
  refine rr ?_
  refine w_loop (α := Nat) (fun k => [(0, .string s), (3, .slice (some ⟨p, 0, none⟩) s.size c), (19, .slice (some ⟨p, 0, none⟩) s.size c), (20, .int .i64 s.size), (21, .int .i64 (k : Int))]) (fun k => [fro p (bl (upK (txt s) k) ++ rest) 5]) (fun k => k ≤ s.size) (fun k => s.size - k) 0 ⟨rfl, rfl, rfl, rfl, rfl, trivial⟩ rfl (Nat.zero_le _) ?_
  rintro k hk K1 hK1
  by_cases hlt : k < s.size
  · obtain ⟨b, hb⟩ := get_some (l := txt s) (i := k) (by rw [txt_len]; exact hlt)
    have hcell : (bl (upK (txt s) k) ++ rest)[0 + (k : Int).toNat * 1]? = some (.int .u8 (b.toNat : Int)) := by
      rw [show 0 + (k : Int).toNat * 1 = k by omega, List.getElem?_append_left (by rw [bl_len, upK_len, txt_len]; exact hlt)]
      exact bl_get (upK_get hb)
    have hlen : 0 + (k : Int).toNat * 1 < (bl (upK (txt s) k) ++ rest).length := (List.getElem?_eq_some_iff.1 hcell).1
    have hb255 : b.toNat < 256 := b.toNat_lt
    have hset : ∀ v, v = Value.int .u8 ((upB b).toNat : Int) → (bl (upK (txt s) k) ++ rest).set (0 + (k : Int).toNat * 1) v = bl (upK (txt s) (k + 1)) ++ rest := by
      intro v hv
      rw [hv, show 0 + (k : Int).toNat * 1 = k by omega, List.set_append_left _ _ (by rw [bl_len, upK_len, txt_len]; exact hlt), upK_succ hb]
      simp [bl, List.map_set]
    by_cases hcap : 97 ≤ b.toNat ∧ b.toNat ≤ 122
    · have hup := upB_yes hcap
      refine rr ?_
      refine w_round hK1 (k + 1) (by show k + 1 ≤ s.size; omega) (by show s.size - (k + 1) < s.size - k; omega) ?_ ⟨rfl, rfl, rfl, rfl, rfl, trivial⟩
      show [fro p _ _] = [fro p _ _]
      rw [hset _ (by congr 1; omega)]
    · have hno : upB b = b := upB_no hcap
      have hsame : bl (upK (txt s) (k + 1)) ++ rest = bl (upK (txt s) k) ++ rest := by
        obtain ⟨hi, hv⟩ := List.getElem?_eq_some_iff.1 hcell
        rw [← hset _ (by rw [hno]), ← hv, List.set_getElem_self]
      by_cases h97 : 97 ≤ b.toNat
      · refine rr ?_
        refine w_round hK1 (k + 1) (by show k + 1 ≤ s.size; omega) (by show s.size - (k + 1) < s.size - k; omega) (by rw [hsame]) ⟨rfl, rfl, rfl, rfl, rfl, trivial⟩
      · refine rr ?_
        refine w_round hK1 (k + 1) (by show k + 1 ≤ s.size; omega) (by show s.size - (k + 1) < s.size - k; omega) (by rw [hsame]) ⟨rfl, rfl, rfl, rfl, rfl, trivial⟩
  · obtain rfl : k = s.size := by omega
    have hall : bl (upK (txt s) s.size) ++ rest = bytC (bs ((txt s).map upB)) ++ rest := by
      congr 1
      unfold upK
      rw [List.take_of_length_le (by rw [txt_len]; omega), List.drop_of_length_le (by rw [txt_len]; omega)]
      simp [bl, bytC, bs]
    have hsz : s.size = (bs ((txt s).map upB)).size := by rw [bs_size, List.length_map, txt_len]
    have hsc : scanD 0 (txt (bs ((txt s).map upB))) = scanD 0 (txt s) := by rw [txt_bs]; exact scan_case _ 0 _ (Nat.le_refl _)
    rw [hall]
    refine rr ?_
    refine ca [] (scanC s (by omega)) ?_
    intro x hx
    try simp only [List.cons_append, List.nil_append, List.append_nil]
    obtain ⟨a1, c1⟩ := x
    dsimp only
    refine rr ?_
    refine ca [] (scanC (bs ((txt s).map upB)) (by omega)) ?_
    intro x hx
    try simp only [List.cons_append, List.nil_append, List.append_nil]
    obtain ⟨a2, c2⟩ := x
    dsimp only
    rw [hsc]
    have hmany := scanD_len _ 0 (txt s) (Nat.le_refl _)
    rw [txt_len] at hmany
    unfold scanV
    generalize scanD 0 (txt s) = res at hmany
    have hlen := tokC_len res.1
    have he1 : (res.2.2 != res.2.2) = false := by simp
    have he2 : ((res.2.1 : Int) != (res.2.1 : Int)) = false := by simp
    refine rr ?_
    refine w_sub [0, 0] rfl ?_
    refine w_loop (α := Nat) (fun k => [(6, .slice a1 res.1.length c1), (9, .slice a2 res.1.length c2), (67, .int .i64 (res.1.length : Int)), (68, .int .i64 (k : Int))]) (fun k => [row a2 c2 32 4 res.1.length (tokC res.1), row a1 c1 32 4 res.1.length (tokC res.1)]) (fun k => k ≤ res.1.length) (fun k => res.1.length - k) 0 ⟨rfl, rfl, rfl, rfl, trivial⟩ rfl (Nat.zero_le _) ?_
    rintro k hk K3 hK3
    by_cases hlt : k < res.1.length
    · obtain ⟨t, ht⟩ := list_get hlt
      have hg := tok_get ht
      refine w_use (fun w hw => (hw.pick 0 rfl).row_some (by first | omega | decide | (simp; done) | (simp <;> omega))) ?_
      rintro ⟨g2, rfl⟩
      refine w_use (fun w hw => (hw.pick 1 rfl).row_some (by first | omega | decide | (simp; done) | (simp <;> omega))) ?_
      rintro ⟨g1, rfl⟩
      refine rr ?_
      refine dr [0, 1, 2, 3, 4, 5, 6, 7, 8] [3, 7] [0, 1] ?_
      refine rr ?_
      exact w_round hK3 (k + 1) (by show k + 1 ≤ res.1.length; omega) (by show res.1.length - (k + 1) < res.1.length - k; omega) rfl ⟨rfl, rfl, rfl, rfl, trivial⟩
    · refine rr ?_
      refine ca [] awakeC ?_
      intro x hx
      try simp only [List.cons_append, List.nil_append, List.append_nil]
      refine rr ?_
      exact we () [] trivial
end Go.Proofs.Yteafgnbkeghmdaa

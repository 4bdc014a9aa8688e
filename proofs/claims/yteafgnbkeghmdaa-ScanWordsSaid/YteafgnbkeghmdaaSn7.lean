/- Contracts of package scan: one token. -/
import Derived.Test.YteafgnbkeghmdaaSn5
import Derived.Test.YteafgnbkeghmdaaSp1
namespace Go.Proofs.Yteafgnbkeghmdaa
open Go Go.Sx Go.Sx.Chunk
set_option linter.unusedVariables false
set_option linter.unusedSimpArgs false

def tokV (a : Nat) (r : List UInt8) : Value := .tuple #[.agg (Tk.cells (tokR r).1 (if (tokR r).2.2 = 0 then (a : Int) else 0)).toArray, .int .i64 (tokR r).2.1, .int .i64 (tokR r).2.2]
theorem take_drop (s : ByteArray) (a k : Nat) : s.extract a (a + k) = bs (((txt s).drop a).take k) := by
  rw [extract_bs, Nat.add_sub_cancel_left]
theorem rest_eq (s : ByteArray) (a : Nat) : s.extract a s.size = bs ((txt s).drop a) := by
  rw [extract_bs, List.take_of_length_le]
  rw [List.length_drop, txt_len]; exact Nat.le_refl _
theorem runL_all (p : Int → Bool) : ∀ (l : List UInt8) (b : UInt8), b ∈ l.take (runL p l) → p (b.toNat : Int) = true
  | [], b, h => by simp at h
  | c :: l, b, h => by
    simp only [runL] at h
    split at h
    · rename_i hc
      simp only [List.take_succ_cons, List.mem_cons] at h
      rcases h with rfl | h
      · exact hc
      · exact runL_all p l b h
    · simp at h
set_option maxHeartbeats 4000000 in
theorem tokenC (s : ByteArray) (a : Nat) (b : UInt8) (hs : s.size ≤ maxLen) (hb : (txt s)[a]? = some b) :
    FnC (α := Unit) Try.prog 14 [.string s, .int .i64 a] [] [] (fun _ => tokV a ((txt s).drop a)) (fun _ => []) (fun _ => True) := by
  have ha : a < s.size := by rw [← txt_len]; exact (List.getElem?_eq_some_iff.1 hb).1
  have hb' : s[(a : Int).toNat]? = some b := by
    rw [show (a : Int).toNat = a by omega]; exact txt_get s _ b hb
  have hsz := hs
  unfold maxLen at hsz
  have hdr : (txt s).drop a = b :: (txt s).drop (a + 1) := drop_cons hb
  have hlen : ((txt s).drop a).length = s.size - a := by rw [List.length_drop, txt_len]
  refine fn_intro Try.func14 Try.ntmps14 rfl rfl rfl (fun w0 => ?_)
  try simp only [List.cons_append, List.nil_append, List.append_nil]
  generalize hv : tokV a ((txt s).drop a) = v
  unfold tokV at hv
  have hsv : signV (s.extract a s.size) (b.toNat : Int) = signR ((txt s).drop a) := by rw [rest_eq, hdr, signV_bs]
  have htk : tokR ((txt s).drop a) = if isLetter (b.toNat : Int) then
      (if runL isLD ((txt s).drop a) > 16 then (tk0, 0, 4) else (⟨1, (((txt s).drop a).take (runL isLD ((txt s).drop a))).map lowB, 0⟩, runL isLD ((txt s).drop a), 0))
    else if isDigit (b.toNat : Int) then
      (if numL (((txt s).drop a).take (runL isDigit ((txt s).drop a))) 0 < 0 then (tk0, 0, 3) else (⟨2, [], numL (((txt s).drop a).take (runL isDigit ((txt s).drop a))) 0⟩, runL isDigit ((txt s).drop a), 0))
    else
      (if signR ((txt s).drop a) = 0 then (tk0, 0, 2) else (⟨3, ((txt s).drop a).take (signR ((txt s).drop a)), 0⟩, signR ((txt s).drop a), 0)) := by
    rw [hdr]; rfl
  have hemp : ByteArray.empty = bs [] := rfl
  refine rr ?_
  intro p _
  refine rr ?_
  refine ca [] (letterC (b.toNat : Int)) ?_
  intro x hx
  try simp only [List.cons_append, List.nil_append, List.append_nil]
  cases hl : isLetter (b.toNat : Int) with
  | true =>
    rw [hl, if_pos rfl] at htk
    refine rr ?_
    refine ca [] (runC s a 22 isLD ldC (by omega) hs) ?_
    intro x hx
    try simp only [List.cons_append, List.nil_append, List.append_nil]
    have hr := runL_le isLD ((txt s).drop a)
    rw [hlen] at hr
    generalize hk : runL isLD ((txt s).drop a) = k at hr htk
    by_cases hk16 : k > 16
    · rw [if_pos hk16] at htk
      rw [htk] at hv
      refine rr ?_
      refine we () [] trivial (hv := ?_)
      rw [← hv]; rfl
    · rw [if_neg hk16] at htk
      rw [htk] at hv
      refine rr ?_
      have he : s.extract ((a : Int)).toNat ((a : Int) + (k : Int)).toNat = bs (((txt s).drop a).take k) := by
        rw [show ((a : Int)).toNat = a by omega, show ((a : Int) + (k : Int)).toNat = a + k by omega, take_drop]
      refine ca [] (lowerC (s.extract ((a : Int)).toNat ((a : Int) + (k : Int)).toNat) (by rw [he, bs_size]; unfold maxLen; simp; omega)) ?_
      intro x hx
      try simp only [List.cons_append, List.nil_append, List.append_nil]
      refine rr ?_
      refine we () [] trivial (hv := ?_)
      rw [← hv, he, lowS_bs, txt_bs]; rfl
  | false =>
    rw [hl, if_neg (by simp)] at htk
    refine rr ?_
    refine ca [] (digitC (b.toNat : Int)) ?_
    intro x hx
    try simp only [List.cons_append, List.nil_append, List.append_nil]
    cases hl2 : isDigit (b.toNat : Int) with
    | true =>
      rw [hl2, if_pos rfl] at htk
      refine rr ?_
      refine ca [] (runC s a 23 isDigit digitC (by omega) hs) ?_
      intro x hx
      try simp only [List.cons_append, List.nil_append, List.append_nil]
      have hr := runL_le isDigit ((txt s).drop a)
      have hall := runL_all isDigit ((txt s).drop a)
      rw [hlen] at hr
      generalize hk : runL isDigit ((txt s).drop a) = k at hr htk hall
      refine rr ?_
      have he : s.extract ((a : Int)).toNat ((a : Int) + (k : Int)).toNat = bs (((txt s).drop a).take k) := by
        rw [show ((a : Int)).toNat = a by omega, show ((a : Int) + (k : Int)).toNat = a + k by omega, take_drop]
      refine ca [] (numberC (s.extract ((a : Int)).toNat ((a : Int) + (k : Int)).toNat) (by rw [he, bs_size]; unfold maxLen; simp; omega) (by rw [he, txt_bs]; exact hall)) ?_
      intro x hx
      try simp only [List.cons_append, List.nil_append, List.append_nil]
      simp only [he, txt_bs]
      generalize numL (((txt s).drop a).take k) 0 = nn at htk
      by_cases hneg : nn < 0
      · rw [if_pos hneg] at htk
        rw [htk] at hv
        refine rr ?_
        refine we () [] trivial (hv := ?_)
        rw [← hv]; rfl
      · rw [if_neg hneg] at htk
        rw [htk] at hv
        refine rr ?_
        refine we () [] trivial (hv := ?_)
        rw [← hv]; rfl
    | false =>
      rw [hl2, if_neg (by simp)] at htk
      refine rr ?_
      refine ca [] (signC s a b hb) ?_
      intro x hx
      try simp only [List.cons_append, List.nil_append, List.append_nil]
      rw [hsv]
      have hr : signR ((txt s).drop a) ≤ s.size - a := by rw [← hlen, hdr]; exact signR_le _ _
      generalize signR ((txt s).drop a) = k at htk hr
      by_cases h0 : k = 0
      · rw [if_pos h0] at htk
        rw [htk] at hv
        subst h0
        refine rr ?_
        refine we () [] trivial (hv := ?_)
        rw [← hv]; rfl
      · rw [if_neg h0] at htk
        rw [htk] at hv
        have hb0 : ((k : Int) == 0) = false := by simp; omega
        refine rr ?_
        rw [hb0]
        refine rr ?_
        have he : s.extract ((a : Int)).toNat ((a : Int) + (k : Int)).toNat = bs (((txt s).drop a).take k) := by
          rw [show ((a : Int)).toNat = a by omega, show ((a : Int) + (k : Int)).toNat = a + k by omega, take_drop]
        refine we () [] trivial (hv := ?_)
        rw [← hv]
        simp only [packR, Option.getD, he]
        rfl
end Go.Proofs.Yteafgnbkeghmdaa

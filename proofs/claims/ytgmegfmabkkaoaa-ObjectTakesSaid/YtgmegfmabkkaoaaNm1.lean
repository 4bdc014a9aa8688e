/- Names that are right: the program's and the reference's. -/
import Derived.Test.YtgmegfmabkkaoaaRr
namespace Go.Proofs.Ytgmegfmabkkaoaa
open Go Go.Sx Go.Sx.Chunk
set_option linter.unusedVariables false
set_option linter.unusedSimpArgs false

def txt (s : ByteArray) : List UInt8 := s.data.toList
theorem txt_len (s : ByteArray) : (txt s).length = s.size := by simp [txt]
theorem txt_at (s : ByteArray) (i : Nat) (b : UInt8) (h : (txt s)[i]? = some b) : s[i]? = some b := by
  have hi := (List.getElem?_eq_some_iff.1 h).1
  rw [txt_len] at hi
  have : s[i]? = some (s[i]'hi) := by simp [hi]
  rw [this]
  have h2 : (txt s)[i]? = some (s[i]'hi) := by
    unfold txt
    rw [List.getElem?_eq_getElem (by simpa using hi)]
    simp [ByteArray.getElem_eq_getElem_data]
  rw [← h2, h]
theorem txt_some {s : ByteArray} {i : Nat} (h : i < s.size) : ∃ b, (txt s)[i]? = some b := ⟨(txt s)[i]'(by rw [txt_len]; exact h), by simp [txt_len, h]⟩
def lowB (c : UInt8) : Bool := decide (97 ≤ c.toNat) && decide (c.toNat ≤ 122)
def digB (c : UInt8) : Bool := decide (48 ≤ c.toNat) && decide (c.toNat ≤ 57)
def wordB (c : UInt8) : Bool := lowB c || digB c
def firstB : List UInt8 → Bool
  | [] => false
  | c :: _ => lowB c
def nameF (s : ByteArray) : Bool := decide (1 ≤ s.size) && (decide (s.size ≤ 16) && (firstB (txt s) && (txt s).all wordB))
def badR (r : Int) : Bool := (decide (r < 97) || decide (122 < r)) && (decide (r < 48) || decide (57 < r))
theorem badR_word (c : UInt8) : badR (c.toNat : Int) = !wordB c := by
  unfold badR wordB lowB digB
  rw [Bool.eq_iff_iff]
  simp
  omega
theorem badR_high {r : Nat} (h : 128 ≤ r) : badR (r : Int) = true := by unfold badR; simp; omega
theorem wordB_high {c : UInt8} (h : 128 ≤ c.toNat) : wordB c = false := by unfold wordB lowB digB; simp; omega
theorem all_bad {α : Type} {p : α → Bool} {l : List α} {i : Nat} {a : α} (h : l[i]? = some a) (hp : p a = false) : l.all p = false := by
  rw [List.all_eq_false]
  exact ⟨a, List.mem_of_getElem? h, by simp [hp]⟩
theorem all_take {α : Type} {p : α → Bool} {l : List α} {i : Nat} {a : α} (h : l[i]? = some a) (hp : p a = true) (ht : (l.take i).all p = true) : (l.take (i + 1)).all p = true := by
  rw [List.take_add_one, h, List.all_append, ht]
  simp [hp]

theorem badC (r : Int) : FnC (α := Unit) Try.prog 34 [.int .i32 r] [] [] (fun _ => .bool (badR r)) (fun _ => []) (fun _ => True) := by
  refine fn_intro Try.func34 Try.ntmps34 rfl rfl rfl (fun w0 => ?_)
  try simp only [List.cons_append, List.nil_append, List.append_nil]
  by_cases h1 : r < 97
  · by_cases h2 : r < 48
    all_goals
      refine rr ?_
      refine we () [] trivial (hv := ?_)
      simp [packR, badR, h1, h2]
  · by_cases h2 : 122 < r
    · by_cases h3 : r < 48
      all_goals
        refine rr ?_
        refine we () [] trivial (hv := ?_)
        simp [packR, badR, h1, h2, h3]
    · refine rr ?_
      refine we () [] trivial (hv := ?_)
      simp [packR, badR, h1, h2]
set_option maxHeartbeats 4000000 in
theorem indexFC (s : ByteArray) (hs : s.size ≤ maxLen) : FnC Try.prog 54 [.string s, .func (.func 34) #[] #[], .bool true] [] [] (fun v : Int => .int .i64 v) (fun _ => []) (fun v => decide (v < 0) = (txt s).all wordB) := by
  have hs' : s.size ≤ 9223372036854775807 := Nat.le_trans hs (by decide)
  refine fn_intro Try.func54 Try.ntmps54 rfl rfl rfl (fun w0 => ?_)
  try simp only [List.cons_append, List.nil_append, List.append_nil]
  refine rr ?_
  intro b _
  refine rr ?_
  refine w_loop (α := Nat) (fun k => [(1, .func (.func 34) #[] #[]), (2, .bool true), (10, .pointer (some ⟨b, 0, none⟩))]) (fun k => [itC b s k]) (fun k => ((txt s).take k).all wordB = true) (fun k => s.size - k) 0 ⟨rfl, rfl, rfl, trivial⟩ rfl (by simp) ?_
  intro k hk K1 hK1
  by_cases hlt : k < s.size
  · obtain ⟨c, hc⟩ := txt_some hlt
    have hc2 := txt_at s k c hc
    have hcg : s[k]'hlt = c := by
      have : s[k]? = some (s[k]'hlt) := by simp [hlt]
      rw [this] at hc2
      exact Option.some.inj hc2
    refine rr ?_
    refine cav [] (badC ((Utf8.decode s k).1 : Int)) ?_
    intro x hx
    try simp only [List.cons_append, List.nil_append, List.append_nil]
    by_cases h8 : 128 ≤ c.toNat
    · have hd := decode_high s k hlt (by rw [hcg]; exact h8)
      rw [badR_high hd.1]
      refine rr ?_
      refine we (k : Int) [] (hx := ?_)
      rw [all_bad hc (wordB_high h8)]
      simp
    · have hd := decode_ascii s k hlt (by rw [hcg]; omega)
      rw [hcg] at hd
      rw [hd]
      dsimp only
      rw [badR_word]
      cases hw : wordB c
      · refine rr ?_
        refine we (k : Int) [] (hx := ?_)
        rw [all_bad hc hw]
        simp
      · refine rr ?_
        exact w_round hK1 (k + 1) (all_take hc hw hk) (by show s.size - (k + 1) < s.size - k; omega) rfl ⟨rfl, rfl, rfl, trivial⟩
  · refine rr ?_
    refine we (-1) [] (hx := ?_)
    rw [List.take_of_length_le (by rw [txt_len]; omega)] at hk
    rw [hk]
    rfl
end Go.Proofs.Ytgmegfmabkkaoaa

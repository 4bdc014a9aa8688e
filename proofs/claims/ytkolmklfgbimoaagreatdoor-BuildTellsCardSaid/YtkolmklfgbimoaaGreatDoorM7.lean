/- Texts of the proof, in their order: Is1, Nm1, Nm2, Bg1, Ob1, Ob2, Ob3, Ob4, Lk1, Lk2, Lk3, Lk4, Lk5, Lk6, Cr1, Nb2, Sq1, Sq2. -/
import Derived.Test.YtkolmklfgbimoaaGreatDoorM3
import Derived.Test.YtkolmklfgbimoaaGreatDoorM6
set_option linter.unusedVariables false
set_option linter.unusedSimpArgs false
namespace Go.Proofs.YtkolmklfgbimoaaGreatDoor
open Go Go.Sx Go.Sx.Chunk
set_option maxRecDepth 100000
def hasA (op : Int) : Bool := decide (1 ≤ op ∧ op ≤ 16 ∨ op = 19)
def hasB (op : Int) : Bool := decide (1 ≤ op ∧ op ≤ 16 ∧ op ≠ 11)
def hasC (op : Int) : Bool := decide (1 ≤ op ∧ op ≤ 9)
def hasI (op : Int) : Bool := decide (10 ≤ op ∧ op ≤ 18 ∨ op = 20)
def okO (op : Int) : Bool := decide (0 ≤ op ∧ op ≤ 20)
def regI (n : Int) (had : Bool) : Bool := decide (n = 0) || (had && decide (0 < n ∧ n < 32))
def fits16 (n : Int) : Bool := decide (-32768 ≤ n ∧ n < 32768)
def numI (op n : Int) : Bool := if op = 17 ∨ op = 18 then decide (0 ≤ n ∧ n ≤ 4096) else if op = 20 then decide (0 ≤ n ∧ n ≤ 2) else if op = 14 then decide (0 ≤ n) && fits16 n else fits16 n
def goodI (i : In) : Bool := okO i.op && regI i.a (hasA i.op) && regI i.b (hasB i.op) && regI i.c (hasC i.op) && (decide (i.imm = 0) || (hasI i.op && numI i.op i.imm))
theorem ops (op : Int) (h : ¬ (op < 0 ∨ 20 < op)) : op = 0 ∨ op = 1 ∨ op = 2 ∨ op = 3 ∨ op = 4 ∨ op = 5 ∨ op = 6 ∨ op = 7 ∨ op = 8 ∨ op = 9 ∨ op = 10 ∨ op = 11 ∨ op = 12 ∨ op = 13 ∨ op = 14 ∨ op = 15 ∨ op = 16 ∨ op = 17 ∨ op = 18 ∨ op = 19 ∨ op = 20 := by omega
theorem and_b {p q : Prop} [Decidable p] [Decidable q] : (decide (p ∧ q)) = (decide p && decide q) := by by_cases hp : p <;> by_cases hq : q <;> simp [hp, hq]
set_option maxHeartbeats 4000000 in
theorem fitsC (n : Int) : FnC (α := Unit) Tryz.prog 141 [.int .i64 n, .int .i64 16] [] [] (fun _ => .bool (fits16 n)) (fun _ => []) (fun _ => True) := by
 refine fn_intro Tryz.func141 Tryz.ntmps141 rfl rfl rfl (fun w0 => ?_)
 try simp only [Sx.ap1, Sx.ap2, Sx.ap3]
 refine rr ?_
 have h1 : IntKind.i64.wrap (1 * 2 ^ min ((16 : Int) - 1).toNat IntKind.i64.bits) = 32768 := by decide +kernel
 have h2 : IntKind.i64.wrap (-32768) = -32768 := by decide +kernel
 rw [h1, h2]
 by_cases h : -32768 ≤ n
 ·skip
  refine rr ?_
  refine we () [] trivial (hv := ?_)
  show Value.bool _ = _
  unfold fits16
  rw [and_b, decide_eq_true h]
  rfl
 ·skip
  refine rr ?_
  refine we () [] trivial (hv := ?_)
  show Value.bool _ = _
  unfold fits16
  rw [and_b, decide_eq_false h]
  rfl
set_option maxHeartbeats 16000000 in
set_option maxRecDepth 100000 in
theorem ofC (op : Int) : FnC (α := Unit) Tryz.prog 86 [.int .i64 op] [] [] (fun _ => .tuple #[.agg #[.bool (hasA op), .bool (hasB op), .bool (hasC op), .bool (hasI op)], .bool (okO op)]) (fun _ => []) (fun _ => True) := by
 refine fn_intro Tryz.func86 Tryz.ntmps86 rfl rfl rfl (fun w0 => ?_)
 try simp only [Sx.ap1, Sx.ap2, Sx.ap3]
 by_cases h : op < 0 ∨ 20 < op
 ·skip
  refine rr ?_
  intro b _
  refine rr ?_
  refine we () [] trivial (hv := ?_)
  have h1 : hasA op = false := by unfold hasA; simp; omega
  have h2 : hasB op = false := by unfold hasB; simp; omega
  have h3 : hasC op = false := by unfold hasC; simp; omega
  have h4 : hasI op = false := by unfold hasI; simp; omega
  have h5 : okO op = false := by unfold okO; simp; omega
  rw [h1, h2, h3, h4, h5]
  rfl
 ·rcases ops op h with rfl | rfl | rfl | rfl | rfl | rfl | rfl | rfl | rfl | rfl | rfl | rfl | rfl | rfl | rfl | rfl | rfl | rfl | rfl | rfl | rfl
  all_goals
   refine rr ?_
   intro b _
   refine rr ?_
   refine we () [] trivial (hv := ?_)
   kernel_rfl
theorem regC (n : Int) (had : Bool) : FnC (α := Unit) Tryz.prog 87 [.int .i64 n, .bool had] [] [] (fun _ => .bool (regI n had)) (fun _ => []) (fun _ => True) := by
 refine fn_intro Tryz.func87 Tryz.ntmps87 rfl rfl rfl (fun w0 => ?_)
 try simp only [Sx.ap1, Sx.ap2, Sx.ap3]
 cases had
 ·by_cases h : n = 0
  ·skip
   refine rr ?_
   refine we () [] trivial (hv := ?_)
   show Value.bool _ = Value.bool (decide (n = 0) || _)
   simp [h]
  ·skip
   refine rr ?_
   refine we () [] trivial (hv := ?_)
   show Value.bool _ = Value.bool (decide (n = 0) || _)
   simp [h]
 ·by_cases h : n = 0
  ·skip
   refine rr ?_
   refine we () [] trivial (hv := ?_)
   show Value.bool _ = Value.bool (decide (n = 0) || _)
   simp [h]
  ·by_cases h1 : 0 < n
   ·skip
    refine rr ?_
    refine we () [] trivial (hv := ?_)
    show Value.bool _ = Value.bool (decide (n = 0) || _)
    simp [h, h1]
   ·skip
    refine rr ?_
    refine we () [] trivial (hv := ?_)
    show Value.bool _ = Value.bool (decide (n = 0) || _)
    simp [h, h1]
set_option maxHeartbeats 4000000 in
theorem numC (op n : Int) : FnC (α := Unit) Tryz.prog 88 [.int .i64 op, .int .i64 n] [] [] (fun _ => .bool (numI op n)) (fun _ => []) (fun _ => True) := by
 refine fn_intro Tryz.func88 Tryz.ntmps88 rfl rfl rfl (fun w0 => ?_)
 try simp only [Sx.ap1, Sx.ap2, Sx.ap3]
 by_cases h17 : op = 17 ∨ op = 18
 ·have hv : numI op n = (decide (0 ≤ n) && decide (n ≤ 4096)) := by unfold numI; rw [if_pos h17, and_b]
  rcases h17 with rfl | rfl
  all_goals
   by_cases h0 : 0 ≤ n
   all_goals
    refine rr ?_
    refine we () [] trivial (hv := ?_)
    rw [hv]
    simp [packR, h0]
 ·by_cases h20 : op = 20
  ·have hv : numI op n = (decide (0 ≤ n) && decide (n ≤ 2)) := by unfold numI; rw [if_neg h17, if_pos h20, and_b]
   subst h20
   by_cases h0 : 0 ≤ n
   all_goals
    refine rr ?_
    refine we () [] trivial (hv := ?_)
    rw [hv]
    simp [packR, h0]
  ·by_cases h14 : op = 14
   ·have hv : numI op n = (decide (0 ≤ n) && fits16 n) := by unfold numI; rw [if_neg h17, if_neg h20, if_pos h14]
    subst h14
    by_cases h0 : 0 ≤ n
    ·skip
     refine rr ?_
     refine ca [] (fitsC n) ?_
     intro x hx
     try simp only [Sx.ap1, Sx.ap2, Sx.ap3]
     refine rr ?_
     refine we () [] trivial (hv := ?_)
     rw [hv]
     simp [packR, h0]
    ·skip
     refine rr ?_
     refine we () [] trivial (hv := ?_)
     rw [hv]
     simp [packR, h0]
   ·have hv : numI op n = fits16 n := by unfold numI; rw [if_neg h17, if_neg h20, if_neg h14]
    refine rr ?_
    refine ca [] (fitsC n) ?_
    intro x hx
    try simp only [Sx.ap1, Sx.ap2, Sx.ap3]
    refine rr ?_
    refine we () [] trivial (hv := ?_)
    rw [hv]
    rfl
set_option maxHeartbeats 8000000 in
theorem rightIC (i : In) : FnC (α := Unit) Tryz.prog 41 [inG i] [] [] (fun _ => .bool (goodI i)) (fun _ => []) (fun _ => True) := by
 unfold inG
 refine fn_intro Tryz.func41 Tryz.ntmps41 rfl rfl rfl (fun w0 => ?_)
 try simp only [Sx.ap1, Sx.ap2, Sx.ap3]
 refine rr ?_
 intro b _
 refine rr ?_
 refine ca [] (ofC i.op) ?_
 intro x hx
 try simp only [Sx.ap1, Sx.ap2, Sx.ap3]
 refine rr ?_
 intro b1 _
 refine rr ?_
 unfold goodI
 generalize okO i.op = o
 generalize hasA i.op = ha
 generalize hasB i.op = hb
 generalize hasC i.op = hc
 generalize hI : hasI i.op = hi
 cases o
 ·skip
  refine rr ?_
  exact we () [] trivial
 refine rr ?_
 refine ca [] (regC i.a ha) ?_
 intro x hx
 try simp only [Sx.ap1, Sx.ap2, Sx.ap3]
 generalize regI i.a ha = ra
 cases ra
 ·skip
  refine rr ?_
  exact we () [] trivial
 refine rr ?_
 refine ca [] (regC i.b hb) ?_
 intro x hx
 try simp only [Sx.ap1, Sx.ap2, Sx.ap3]
 generalize regI i.b hb = rb
 cases rb
 ·skip
  refine rr ?_
  exact we () [] trivial
 refine rr ?_
 refine ca [] (regC i.c hc) ?_
 intro x hx
 try simp only [Sx.ap1, Sx.ap2, Sx.ap3]
 generalize regI i.c hc = rc
 cases rc
 ·skip
  refine rr ?_
  exact we () [] trivial
 by_cases h0 : i.imm = 0
 ·skip
  refine rr ?_
  refine we () [] trivial (hv := ?_)
  simp [packR, h0]
 ·have h1 : decide (i.imm = 0) = false := decide_eq_false h0
  rw [h1]
  cases hi
  ·skip
   refine rr ?_
   exact we () [] trivial
  ·skip
   refine rr ?_
   refine ca [] (numC i.op i.imm) ?_
   intro x hx
   try simp only [Sx.ap1, Sx.ap2, Sx.ap3]
   refine rr ?_
   exact we () [] trivial
end Go.Proofs.YtkolmklfgbimoaaGreatDoor
namespace Go.Proofs.YtkolmklfgbimoaaGreatDoor
open Go Go.Sx Go.Sx.Chunk
def txt (s : ByteArray) : List UInt8 := s.data.toList
theorem txt_len (s : ByteArray) : (txt s).length = s.size := by simp [txt]
theorem txt_at (s : ByteArray) (i : Nat) (b : UInt8) (h : (txt s)[i]? = some b) : s[i]? = some b := by
 have hi := (List.getElem?_eq_some_iff.1 h).1
 rw [txt_len] at hi
 have : s[i]? = some (s[i]'hi) := by simp [hi]
 rw [this]
 have h2 : (txt s)[i]? = some (s[i]'hi) := by
  unfold txt
  rw [List.getElem?_eq_getElem (by simpa using hi)]
  simp [ByteArray.getElem_eq_getElem_data]
 rw [← h2, h]
theorem txt_some {s : ByteArray} {i : Nat} (h : i < s.size) : ∃ b, (txt s)[i]? = some b := ⟨(txt s)[i]'(by rw [txt_len]; exact h), by simp [txt_len, h]⟩
def lowB (c : UInt8) : Bool := decide (97 ≤ c.toNat) && decide (c.toNat ≤ 122)
def digB (c : UInt8) : Bool := decide (48 ≤ c.toNat) && decide (c.toNat ≤ 57)
def wordB (c : UInt8) : Bool := lowB c || digB c
def firstB : List UInt8 → Bool
 | [] => false
 | c :: _ => lowB c
def nameF (s : ByteArray) : Bool := decide (1 ≤ s.size) && (decide (s.size ≤ 16) && (firstB (txt s) && (txt s).all wordB))
def badR (r : Int) : Bool := (decide (r < 97) || decide (122 < r)) && (decide (r < 48) || decide (57 < r))
theorem badR_word (c : UInt8) : badR (c.toNat : Int) = !wordB c := by
 unfold badR wordB lowB digB
 rw [Bool.eq_iff_iff]
 simp
 omega
theorem badR_high {r : Nat} (h : 128 ≤ r) : badR (r : Int) = true := by unfold badR; simp; omega
theorem wordB_high {c : UInt8} (h : 128 ≤ c.toNat) : wordB c = false := by unfold wordB lowB digB; simp; omega
theorem all_bad {α : Type} {p : α → Bool} {l : List α} {i : Nat} {a : α} (h : l[i]? = some a) (hp : p a = false) : l.all p = false := by
 rw [List.all_eq_false]
 exact ⟨a, List.mem_of_getElem? h, by simp [hp]⟩
theorem all_take {α : Type} {p : α → Bool} {l : List α} {i : Nat} {a : α} (h : l[i]? = some a) (hp : p a = true) (ht : (l.take i).all p = true) : (l.take (i + 1)).all p = true := by
 rw [List.take_add_one, h, List.all_append, ht]
 simp [hp]
theorem badC (r : Int) : FnC (α := Unit) Tryz.prog 131 [.int .i32 r] [] [] (fun _ => .bool (badR r)) (fun _ => []) (fun _ => True) := by
 refine fn_intro Tryz.func131 Tryz.ntmps131 rfl rfl rfl (fun w0 => ?_)
 try simp only [Sx.ap1, Sx.ap2, Sx.ap3]
 by_cases h1 : r < 97
 ·by_cases h2 : r < 48
  all_goals
   refine rr ?_
   refine we () [] trivial (hv := ?_)
   simp [packR, badR, h1, h2]
 ·by_cases h2 : 122 < r
  ·by_cases h3 : r < 48
   all_goals
    refine rr ?_
    refine we () [] trivial (hv := ?_)
    simp [packR, badR, h1, h2, h3]
  ·skip
   refine rr ?_
   refine we () [] trivial (hv := ?_)
   simp [packR, badR, h1, h2]
set_option maxHeartbeats 4000000 in
theorem indexFC (s : ByteArray) (hs : s.size ≤ maxLen) : FnC Tryz.prog 183 [.string s, .func (.func 131) #[] #[], .bool true] [] [] (fun v : Int => .int .i64 v) (fun _ => []) (fun v => decide (v < 0) = (txt s).all wordB) := by
 have hs' : s.size ≤ 9223372036854775807 := Nat.le_trans hs (by decide)
 refine fn_intro Tryz.func183 Tryz.ntmps183 rfl rfl rfl (fun w0 => ?_)
 try simp only [Sx.ap1, Sx.ap2, Sx.ap3]
 refine rr ?_
 intro b _
 refine rr ?_
 refine w_loop (α := Nat) (fun k => [(1, .func (.func 131) #[] #[]), (2, .bool true), (10, .pointer (some ⟨b, 0, none⟩))]) (fun k => [itC b s k]) (fun k => ((txt s).take k).all wordB = true) (fun k => s.size - k) 0 ⟨rfl, rfl, rfl, trivial⟩ rfl (by simp) ?_
 intro k hk K1 hK1
 by_cases hlt : k < s.size
 ·obtain ⟨c, hc⟩ := txt_some hlt
  have hc2 := txt_at s k c hc
  have hcg : s[k]'hlt = c := by
   have : s[k]? = some (s[k]'hlt) := by simp [hlt]
   rw [this] at hc2
   exact Option.some.inj hc2
  refine rr ?_
  refine cav [] (badC ((Utf8.decode s k).1 : Int)) ?_
  intro x hx
  try simp only [Sx.ap1, Sx.ap2, Sx.ap3]
  by_cases h8 : 128 ≤ c.toNat
  ·have hd := decode_high s k hlt (by rw [hcg]; exact h8)
   rw [badR_high hd.1]
   refine rr ?_
   refine we (k : Int) [] (hx := ?_)
   rw [all_bad hc (wordB_high h8)]
   simp
  ·have hd := decode_ascii s k hlt (by rw [hcg]; omega)
   rw [hcg] at hd
   rw [hd]
   dsimp only
   rw [badR_word]
   cases hw : wordB c
   ·skip
    refine rr ?_
    refine we (k : Int) [] (hx := ?_)
    rw [all_bad hc hw]
    simp
   ·skip
    refine rr ?_
    exact w_round hK1 (k + 1) (all_take hc hw hk) (by show s.size - (k + 1) < s.size - k; omega) rfl ⟨rfl, rfl, rfl, trivial⟩
 ·skip
  refine rr ?_
  refine we (-1) [] (hx := ?_)
  rw [List.take_of_length_le (by rw [txt_len]; omega)] at hk
  rw [hk]
  rfl
end Go.Proofs.YtkolmklfgbimoaaGreatDoor
namespace Go.Proofs.YtkolmklfgbimoaaGreatDoor
open Go Go.Sx Go.Sx.Chunk
theorem indexFuncC (s : ByteArray) (hs : s.size ≤ maxLen) : FnC Tryz.prog 130 [.string s, .func (.func 131) #[] #[]] [] [] (fun v : Int => .int .i64 v) (fun _ => []) (fun v => decide (v < 0) = (txt s).all wordB) := by
 refine fn_intro Tryz.func130 Tryz.ntmps130 rfl rfl rfl (fun w0 => ?_)
 try simp only [Sx.ap1, Sx.ap2, Sx.ap3]
 refine rr ?_
 refine ca [] (indexFC s hs) ?_
 intro x hx
 try simp only [Sx.ap1, Sx.ap2, Sx.ap3]
 refine rr ?_
 exact we x [] hx
set_option maxHeartbeats 4000000 in
theorem rightNameC (s : ByteArray) (hs : s.size ≤ maxLen) : FnC (α := Unit) Tryz.prog 74 [.string s] [] [] (fun _ => .bool (nameF s)) (fun _ => []) (fun _ => True) := by
 refine fn_intro Tryz.func74 Tryz.ntmps74 rfl rfl rfl (fun w0 => ?_)
 try simp only [Sx.ap1, Sx.ap2, Sx.ap3]
 unfold nameF
 by_cases h1 : 1 ≤ s.size
 ·by_cases h2 : s.size ≤ 16
  ·obtain ⟨c, hc⟩ := txt_some (s := s) (i := 0) (by omega)
   have hc2 := txt_at s 0 c hc
   have hc3 : s[(0 : Int).toNat]? = some c := hc2
   have hf : firstB (txt s) = lowB c := by
    cases ht : txt s with
    | nil => rw [ht] at hc; simp at hc
    | cons a l => rw [ht] at hc; simp at hc; subst hc; rfl
   rw [hf, decide_eq_true h1, decide_eq_true h2]
   unfold lowB
   by_cases h3 : 97 ≤ c.toNat
   ·by_cases h4 : c.toNat ≤ 122
    ·rw [decide_eq_true h3, decide_eq_true h4]
     refine rr ?_
     refine ca [] (indexFuncC s hs) ?_
     intro x hx
     try simp only [Sx.ap1, Sx.ap2, Sx.ap3]
     rw [← hx]
     refine rr ?_
     refine we () [] trivial (hv := ?_)
     simp [packR]
    ·rw [decide_eq_false h4]
     refine rr ?_
     refine we () [] trivial (hv := ?_)
     simp [packR, h3, h4]
     try omega
   ·rw [decide_eq_false h3]
    refine rr ?_
    refine we () [] trivial (hv := ?_)
    simp [packR, h3]
    try omega
  ·skip
   refine rr ?_
   refine we () [] trivial (hv := ?_)
   simp [packR, h1, h2]
   try omega
 ·skip
  refine rr ?_
  refine we () [] trivial (hv := ?_)
  simp [packR, h1]
  try omega
end Go.Proofs.YtkolmklfgbimoaaGreatDoor
namespace Go.Proofs.YtkolmklfgbimoaaGreatDoor
open Go Go.Sx Go.Sx.Chunk
def inL (v : ByteArray) (l : List ByteArray) : Bool := l.any fun s => decide (s = v)
def bMap (l : List ByteArray) : List (ByteArray × Value) := l.map fun s => (s, .bool true)
theorem atK_bMap (v : ByteArray) : ∀ l, atK (bMap l) v = if inL v l then some (.bool true) else none
 | [] => rfl
 | a :: l => by
  have ih := atK_bMap v l
  simp only [bMap, List.map_cons, atK] at ih ⊢
  by_cases h : a = v
  ·subst h; simp [inL]
  ·have h' : ¬ v = a := fun e => h e.symm
   simp only [inL, List.any_cons, h, decide_false, Bool.false_or] at ih ⊢
   first | (rw [if_neg h]; exact ih) | (rw [if_neg h']; exact ih)
theorem putK_bMap (v : ByteArray) : ∀ l, inL v l = false → putK (bMap l) v (.bool true) = bMap (l ++ [v])
 | [], _ => rfl
 | a :: l, h => by
  simp only [inL, List.any_cons, Bool.or_eq_false_iff, decide_eq_false_iff_not] at h
  have ih := putK_bMap v l h.2
  have h' : ¬ v = a := fun e => h.1 e.symm
  simp only [bMap, List.map_cons, List.cons_append, putK] at ih ⊢
  first | rw [if_neg h.1, ih] | rw [if_neg h', ih]
def mapO (m : Option Nat) (l : List ByteArray) : Chunk := match m with
 | none => genL []
 | some g => mapC Value.string g (bMap l)
def setH (b : Nat) (m : Option Nat) (oa : Option Addr) (oc : Nat) (l : List ByteArray) : List Chunk := [blk b [.map m, .slice oa l.length oc] 161, row oa oc 9 1 l.length (strC l), mapO m l]
def setOk (m : Option Nat) (l : List ByteArray) : Prop := m = none → l = []
theorem setW {b : Nat} {m : Option Nat} {oa : Option Addr} {oc : Nat} {l : List ByteArray} : allW (setH b m oa oc l) = true := by cases m <;> rfl
theorem setHasC (b : Nat) (m : Option Nat) (oa : Option Addr) (oc : Nat) (l : List ByteArray) (v : ByteArray) (hm : setOk m l) :
  FnC (α := Unit) Tryz.prog 134 [.pointer (some ⟨b, 0, none⟩), .string v] (setH b m oa oc l) [] (fun _ => .bool (inL v l)) (fun _ => setH b m oa oc l) (fun _ => True) := by
 refine fn_intro Tryz.func134 Tryz.ntmps134 rfl rfl rfl (fun w0 => ?_)
 try simp only [Sx.ap1, Sx.ap2, Sx.ap3]
 unfold setH
 cases m with
 | none =>
  obtain rfl := hm rfl
  refine rr ?_
  exact we () [0, 0, 0] trivial
 | some g =>
  simp only [mapO]
  refine rr ?_
  rw [atK_bMap]
  refine we () [0, 0, 0] trivial (hv := ?_)
  cases h : inL v l <;> rfl
set_option maxHeartbeats 4000000 in
theorem setAddC (b : Nat) (m : Option Nat) (oa : Option Addr) (oc : Nat) (l : List ByteArray) (v : ByteArray) (hm : setOk m l) (hl : l.length ≤ 8796093021952) :
  FnC Tryz.prog 81 [.pointer (some ⟨b, 0, none⟩), .string v] (setH b m oa oc l) [] (fun _ : Option Nat × Option Addr × Nat => .bool (!inL v l)) (fun x => setH b x.1 x.2.1 x.2.2 (if inL v l then l else l ++ [v])) (fun x => setOk x.1 (if inL v l then l else l ++ [v])) := by
 refine fn_intro Tryz.func81 Tryz.ntmps81 rfl rfl rfl (fun w0 => ?_)
 try simp only [Sx.ap1, Sx.ap2, Sx.ap3]
 refine rr ?_
 refine ca [0, 0, 0] (setHasC b m oa oc l v hm) (ho := fun _ => setW) ?_
 intro x hx
 try simp only [Sx.ap1, Sx.ap2, Sx.ap3]
 cases h : inL v l with
 | true =>
  refine rr ?_
  exact we (m, oa, oc) [0, 0, 0] (by rw [if_pos rfl]; exact hm)
 | false =>
  unfold setH
  cases m with
  | none =>
   obtain rfl := hm rfl
   refine rr ?_
   intro g _
   show Wd _ _ (mapC Value.string g [] :: _) _
   refine rr ?_
   intro b1 _
   refine rr ?_
   rintro ⟨a1, c1⟩ ⟨hc1, _⟩
   refine rr ?_
   exact we (some g, a1, c1) [0, 0, 0] (fun h => by cases h)
  | some g =>
   simp only [mapO]
   refine rr ?_
   intro b1 _
   refine rr ?_
   rintro ⟨a1, c1⟩ ⟨hc1, _⟩
   refine rr ?_
   have hlen : l.length + 1 = (l ++ [v]).length := by simp
   have hstr : strC l ++ [Value.string v] = strC (l ++ [v]) := by simp [strC]
   rw [putK_bMap v l h, hlen, hstr]
   exact we (some g, a1, c1) [0, 0, 0] (fun h => by cases h)
def onceL : List ByteArray → Bool
 | [] => true
 | a :: l => !inL a l && onceL l
theorem inL_app (v : ByteArray) (a b : List ByteArray) : inL v (a ++ b) = (inL v a || inL v b) := by simp [inL]
end Go.Proofs.YtkolmklfgbimoaaGreatDoor
namespace Go.Proofs.YtkolmklfgbimoaaGreatDoor
open Go Go.Sx Go.Sx.Chunk
structure Ob where
 mk ::
 (name : ByteArray) (ca : Option Addr) (cc : Nat) (code : List In) (data : Int) (ea : Option Addr) (ec : Nat) (exps : List Sy) (ia : Option Addr) (ic : Nat) (imps : List ByteArray) (pa : Option Addr) (pc : Nat) (pats : List Pa)
def obV (o : Ob) : List Value := [.string o.name, .slice o.ca o.code.length o.cc, .int .i64 o.data, .slice o.ea o.exps.length o.ec, .slice o.ia o.imps.length o.ic, .slice o.pa o.pats.length o.pc]
def obG (o : Ob) : Value := .agg #[.string o.name, .slice o.ca o.code.length o.cc, .int .i64 o.data, .slice o.ea o.exps.length o.ec, .slice o.ia o.imps.length o.ic, .slice o.pa o.pats.length o.pc]
def obS (o : Ob) : List Chunk := [rng o.ca (insC o.code), rng o.ea (syC o.exps), rng o.ia (strC o.imps), rng o.pa (paC o.pats)]
def big : Nat := 8796093021952
structure OkOb (o : Ob) : Prop where
 name : o.name.size ≤ maxLen
 code : o.code.length ≤ 3518437208780
 exps : o.exps.length ≤ 5864062014634
 imps : o.imps.length ≤ 8796093021952
 pats : o.pats.length ≤ 5864062014634
 ens : ∀ x ∈ o.exps, x.name.size ≤ maxLen
 ins : ∀ x ∈ o.imps, x.size ≤ maxLen
theorem any_step {α : Type} {p : α → Bool} {l : List α} {k : Nat} {a : α} (h : l[k]? = some a) (hp : p a = false) (ht : (l.take k).any p = false) : (l.take (k + 1)).any p = false := by
 rw [List.take_add_one, h, List.any_append, ht]
 simp [hp]
theorem any_hit {α : Type} {p : α → Bool} {l : List α} {k : Nat} {a : α} (h : l[k]? = some a) (hp : p a = true) : l.any p = true := by
 rw [List.any_eq_true]
 exact ⟨a, List.mem_of_getElem? h, hp⟩
theorem wrongIC (i : In) : FnC (α := Unit) Tryz.prog 76 [inG i] [] [] (fun _ => .bool (!goodI i)) (fun _ => []) (fun _ => True) := by
 unfold inG
 refine fn_intro Tryz.func76 Tryz.ntmps76 rfl rfl rfl (fun w0 => ?_)
 try simp only [Sx.ap1, Sx.ap2, Sx.ap3]
 refine rr ?_
 intro b _
 refine rr ?_
 refine ca [] (rightIC i) ?_
 intro x hx
 try simp only [Sx.ap1, Sx.ap2, Sx.ap3]
 refine rr ?_
 exact we () [] trivial
set_option maxHeartbeats 4000000 in
theorem indexIC (a : Option Addr) (c : Nat) (l : List In) (hl : l.length ≤ 8796093021952) :
  FnC Tryz.prog 132 [.slice a l.length c, .func (.func 76) #[] #[]] [] [rng a (insC l)] (fun v : Int => .int .i64 v) (fun _ => []) (fun v => decide (0 ≤ v) = l.any (fun i => !goodI i)) := by
 refine fn_intro Tryz.func132 Tryz.ntmps132 rfl rfl rfl (fun w0 => ?_)
 try simp only [Sx.ap1, Sx.ap2, Sx.ap3]
 refine rr ?_
 refine w_loop (α := Nat) (fun k => [(0, .slice a l.length c), (1, .func (.func 76) #[] #[]), (7, .int .i64 (l.length : Int)), (8, .int .i64 (k : Int))]) (fun k => [rng a (insC l)]) (fun k => k ≤ l.length ∧ (l.take k).any (fun i => !goodI i) = false) (fun k => l.length - k) 0 ⟨rfl, rfl, rfl, rfl, trivial⟩ rfl ⟨Nat.zero_le _, by simp⟩ ?_
 rintro k ⟨hk, hany⟩ K1 hK1
 by_cases hlt : k < l.length
 ·obtain ⟨e, he⟩ := some_at hlt
  have hall : ((insC l).drop ((k : Int).toNat * 5)).take 5 = [.int .i64 e.op, .int .i64 e.a, .int .i64 e.b, .int .i64 e.c, .int .i64 e.imm] := insC_all he _ (by omega)
  have hlen := insC_len l
  refine w_use (fun w hw => (hw.pick 0 rfl).rng_some (by first | omega | decide | (simp; done) | (simp <;> omega))) ?_
  rintro ⟨g1, rfl⟩
  refine rr ?_
  refine cav [] (wrongIC e) ?_
  intro x hx
  try simp only [Sx.ap1, Sx.ap2, Sx.ap3]
  cases hg : goodI e with
  | true =>
   refine rr ?_
   exact w_round hK1 (k + 1) ⟨by omega, any_step he (by rw [hg]; rfl) hany⟩ (by show l.length - (k + 1) < l.length - k; omega) rfl ⟨rfl, rfl, rfl, rfl, trivial⟩
  | false =>
   refine rr ?_
   refine we (k : Int) [] (hx := ?_)
   rw [any_hit he (by rw [hg]; rfl)]
   simp
 ·obtain rfl : k = l.length := by omega
  rw [List.take_length] at hany
  refine rr ?_
  refine we (-1) [] (hx := ?_)
  rw [hany]
  rfl
theorem containsIC (a : Option Addr) (c : Nat) (l : List In) (hl : l.length ≤ 8796093021952) :
  FnC (α := Unit) Tryz.prog 75 [.slice a l.length c, .func (.func 76) #[] #[]] [] [rng a (insC l)] (fun _ => .bool (l.any (fun i => !goodI i))) (fun _ => []) (fun _ => True) := by
 refine fn_intro Tryz.func75 Tryz.ntmps75 rfl rfl rfl (fun w0 => ?_)
 try simp only [Sx.ap1, Sx.ap2, Sx.ap3]
 refine rr ?_
 refine ca [] (indexIC a c l hl) ?_
 intro x hx
 try simp only [Sx.ap1, Sx.ap2, Sx.ap3]
 refine rr ?_
 refine we () [] trivial (hv := ?_)
 rw [← hx]
 rfl
end Go.Proofs.YtkolmklfgbimoaaGreatDoor
namespace Go.Proofs.YtkolmklfgbimoaaGreatDoor
open Go Go.Sx Go.Sx.Chunk
def goodP (nC nI : Nat) (p : Pa) : Bool := (if p.kind = 2 then decide (0 ≤ p.n) && decide (p.n < (nI : Int)) else decide (p.n = 0)) && (decide (0 ≤ p.pl) && (decide (p.pl < (nC : Int)) && (decide (0 ≤ p.kind) && decide (p.kind < 5))))
set_option maxHeartbeats 8000000 in
theorem rightPC (o : Ob) (p : Pa) : FnC (α := Unit) Tryz.prog 80 [obG o, paG p] [] [] (fun _ => .bool (goodP o.code.length o.imps.length p)) (fun _ => []) (fun _ => True) := by
 unfold obG paG goodP
 generalize hnC : o.code.length = nC
 generalize hnI : o.imps.length = nI
 refine fn_intro Tryz.func80 Tryz.ntmps80 rfl rfl rfl (fun w0 => ?_)
 try simp only [Sx.ap1, Sx.ap2, Sx.ap3]
 refine rr ?_
 intro b _
 refine rr ?_
 intro b1 _
 by_cases hk : p.kind = 2
 ·rw [if_pos hk]
  by_cases h1 : 0 ≤ p.n
  ·by_cases h2 : p.n < (nI : Int)
   ·by_cases h3 : 0 ≤ p.pl
    ·by_cases h4 : p.pl < (nC : Int)
     ·skip
      refine rr ?_
      refine we () [] trivial (hv := ?_)
      simp [packR, hk, h1, h2, h3, h4]
     ·skip
      refine rr ?_
      refine we () [] trivial (hv := ?_)
      simp [packR, hk, h1, h2, h3, h4]
      try omega
    ·skip
     refine rr ?_
     refine we () [] trivial (hv := ?_)
     simp [packR, hk, h1, h2, h3]
     try omega
   ·skip
    refine rr ?_
    refine we () [] trivial (hv := ?_)
    simp [packR, hk, h1, h2]
    try omega
  ·skip
   refine rr ?_
   refine we () [] trivial (hv := ?_)
   simp [packR, hk, h1]
   try omega
 ·rw [if_neg hk]
  by_cases h1 : p.n = 0
  ·by_cases h3 : 0 ≤ p.pl
   ·by_cases h4 : p.pl < (nC : Int)
    ·by_cases h5 : 0 ≤ p.kind
     all_goals
      refine rr ?_
      refine we () [] trivial (hv := ?_)
      simp [packR, h1, h3, h4, h5]
      try omega
    ·skip
     refine rr ?_
     refine we () [] trivial (hv := ?_)
     simp [packR, h1, h3, h4]
     try omega
   ·skip
    refine rr ?_
    refine we () [] trivial (hv := ?_)
    simp [packR, h1, h3]
    try omega
  ·skip
   refine rr ?_
   refine we () [] trivial (hv := ?_)
   simp [packR, h1]
theorem wrongPC (o : Ob) (b0 : Nat) (p : Pa) : FnC (α := Unit) Tryz.prog 79 [paG p, .pointer (some ⟨b0, 0, none⟩)] [] [rng (some ⟨b0, 0, none⟩) (obV o)] (fun _ => .bool (!goodP o.code.length o.imps.length p)) (fun _ => []) (fun _ => True) := by
 unfold paG
 refine fn_intro Tryz.func79 Tryz.ntmps79 rfl rfl rfl (fun w0 => ?_)
 try simp only [Sx.ap1, Sx.ap2, Sx.ap3]
 unfold obV
 refine rr ?_
 intro b _
 refine rr ?_
 refine ca [] (rightPC o p) ?_
 intro x hx
 try simp only [Sx.ap1, Sx.ap2, Sx.ap3]
 refine rr ?_
 exact we () [] trivial
set_option maxHeartbeats 4000000 in
theorem indexPC (o : Ob) (b0 : Nat) (a : Option Addr) (c : Nat) (l : List Pa) (hl : l.length ≤ 8796093021952) :
  FnC Tryz.prog 133 [.slice a l.length c, .func (.func 79) #[] #[.pointer (some ⟨b0, 0, none⟩)]] [] [rng a (paC l), rng (some ⟨b0, 0, none⟩) (obV o)] (fun v : Int => .int .i64 v) (fun _ => []) (fun v => decide (0 ≤ v) = l.any (fun p => !goodP o.code.length o.imps.length p)) := by
 refine fn_intro Tryz.func133 Tryz.ntmps133 rfl rfl rfl (fun w0 => ?_)
 try simp only [Sx.ap1, Sx.ap2, Sx.ap3]
 refine rr ?_
 refine w_loop (α := Nat) (fun k => [(0, .slice a l.length c), (1, .func (.func 79) #[] #[.pointer (some ⟨b0, 0, none⟩)]), (7, .int .i64 (l.length : Int)), (8, .int .i64 (k : Int))]) (fun k => [rng a (paC l), rng (some ⟨b0, 0, none⟩) (obV o)]) (fun k => k ≤ l.length ∧ (l.take k).any (fun p => !goodP o.code.length o.imps.length p) = false) (fun k => l.length - k) 0 ⟨rfl, rfl, rfl, rfl, trivial⟩ rfl ⟨Nat.zero_le _, by simp⟩ ?_
 rintro k ⟨hk, hany⟩ K1 hK1
 by_cases hlt : k < l.length
 ·obtain ⟨e, he⟩ := some_at hlt
  have hall : ((paC l).drop ((k : Int).toNat * 3)).take 3 = [.int .i64 e.pl, .int .i64 e.kind, .int .i64 e.n] := paC_all he _ (by omega)
  have hlen := paC_len l
  refine w_use (fun w hw => (hw.pick 0 rfl).rng_some (by first | omega | decide | (simp; done) | (simp <;> omega))) ?_
  rintro ⟨g1, rfl⟩
  refine rr ?_
  refine cav [] (wrongPC o b0 e) ?_
  intro x hx
  try simp only [Sx.ap1, Sx.ap2, Sx.ap3]
  cases hg : goodP o.code.length o.imps.length e with
  | true =>
   refine rr ?_
   exact w_round hK1 (k + 1) ⟨by omega, any_step he (by rw [hg]; rfl) hany⟩ (by show l.length - (k + 1) < l.length - k; omega) rfl ⟨rfl, rfl, rfl, rfl, trivial⟩
  | false =>
   refine rr ?_
   refine we (k : Int) [] (hx := ?_)
   rw [any_hit he (by rw [hg]; rfl)]
   simp
 ·obtain rfl : k = l.length := by omega
  rw [List.take_length] at hany
  refine rr ?_
  refine we (-1) [] (hx := ?_)
  rw [hany]
  rfl
theorem containsPC (o : Ob) (b0 : Nat) (a : Option Addr) (c : Nat) (l : List Pa) (hl : l.length ≤ 8796093021952) :
  FnC (α := Unit) Tryz.prog 78 [.slice a l.length c, .func (.func 79) #[] #[.pointer (some ⟨b0, 0, none⟩)]] [] [rng a (paC l), rng (some ⟨b0, 0, none⟩) (obV o)] (fun _ => .bool (l.any (fun p => !goodP o.code.length o.imps.length p))) (fun _ => []) (fun _ => True) := by
 refine fn_intro Tryz.func78 Tryz.ntmps78 rfl rfl rfl (fun w0 => ?_)
 try simp only [Sx.ap1, Sx.ap2, Sx.ap3]
 refine rr ?_
 refine ca [] (indexPC o b0 a c l hl) ?_
 intro x hx
 try simp only [Sx.ap1, Sx.ap2, Sx.ap3]
 refine rr ?_
 refine we () [] trivial (hv := ?_)
 rw [← hx]
 rfl
def chkL : List ByteArray → List ByteArray → Bool
 | _, [] => true
 | acc, a :: l => nameF a && (!inL a acc && chkL (acc ++ [a]) l)
def aloneF (l : List ByteArray) : Bool := chkL [] l && decide (l.length ≤ 255)
theorem chkL_step (acc : List ByteArray) {l : List ByteArray} {a : ByteArray} : ∀ {k : Nat}, l[k]? = some a → chkL acc (l.drop k) = (nameF a && (!inL a acc && chkL (acc ++ [a]) (l.drop (k + 1)))) := fun {k} h => by
 obtain ⟨hi, hb⟩ := List.getElem?_eq_some_iff.1 h
 rw [List.drop_eq_getElem_cons hi, hb]
 rfl
theorem take_snoc {α : Type} {l : List α} {k : Nat} {a : α} (h : l[k]? = some a) : l.take (k + 1) = l.take k ++ [a] := by rw [List.take_add_one, h]; rfl
set_option maxHeartbeats 4000000 in
theorem aloneC (a : Option Addr) (c : Nat) (l : List ByteArray) (hl : l.length ≤ 8796093021952) (hs : ∀ s ∈ l, s.size ≤ maxLen) :
  FnC (α := Unit) Tryz.prog 77 [.slice a l.length c] [] [rng a (strC l)] (fun _ => .bool (aloneF l)) (fun _ => []) (fun _ => True) := by
 refine fn_intro Tryz.func77 Tryz.ntmps77 rfl rfl rfl (fun w0 => ?_)
 try simp only [Sx.ap1, Sx.ap2, Sx.ap3]
 refine rr ?_
 intro b _
 refine rr ?_
 refine w_turn (fun w hw => ((hw.row_nil 9 1).gen0).sub [2, 1, 0, 0] (A := setH b none none 0 [] ++ [rng a (strC l)]) rfl) ?_
 refine rr ?_
 refine w_loop (α := Nat × Option Nat × Option Addr × Nat) (fun x => [(0, .slice a l.length c), (3, .pointer (some ⟨b, 0, none⟩)), (6, .slice a l.length c), (7, .int .i64 (l.length : Int)), (8, .int .i64 (x.1 : Int))]) (fun x => setH b x.2.1 x.2.2.1 x.2.2.2 (l.take x.1) ++ [rng a (strC l)]) (fun x => x.1 ≤ l.length ∧ setOk x.2.1 (l.take x.1) ∧ chkL [] l = chkL (l.take x.1) (l.drop x.1)) (fun x => l.length - x.1) (0, none, none, 0) ⟨rfl, rfl, rfl, rfl, rfl, trivial⟩ rfl ⟨Nat.zero_le _, fun _ => rfl, rfl⟩ ?_
 rintro ⟨k, m, oa, oc⟩ ⟨hk, hm, hchk⟩ K1 hK1
 dsimp only at hk hm hchk ⊢
 by_cases hlt : k < l.length
 ·obtain ⟨s, he⟩ := some_at hlt
  have hc : (strC l)[(k : Int).toNat * 1]? = some (.string s) := by rw [show (k : Int).toNat * 1 = k by omega]; exact strC_at he
  have hlen := strC_len l
  have hstep := chkL_step (l.take k) he
  have hsz := hs s (List.mem_of_getElem? he)
  refine w_use (fun w hw => (hw.pick 3 rfl).rng_some (by first | omega | decide | (simp; done) | (simp <;> omega))) ?_
  rintro ⟨g1, rfl⟩
  refine rr ?_
  refine ca [] (rightNameC s hsz) ?_
  intro x hx
  try simp only [Sx.ap1, Sx.ap2, Sx.ap3]
  cases hn : nameF s with
  | false =>
   have hf : aloneF l = false := by unfold aloneF; rw [hchk, hstep, hn]; rfl
   rw [hf]
   refine rr ?_
   exact we () [] trivial
  | true =>
   refine rr ?_
   refine ca [0, 0, 0] (setAddC b m oa oc (l.take k) s hm (by simp; omega)) (ho := fun _ => setW) ?_
   intro x hx
   cases hin : inL s (l.take k) with
   | true =>
    have hf : aloneF l = false := by unfold aloneF; rw [hchk, hstep, hn, hin]; rfl
    rw [hf]
    refine rr ?_
    exact we () [] trivial
   | false =>
    rw [hin] at hx
    simp only [if_false, Bool.false_eq_true] at hx ⊢
    rw [← take_snoc he] at hx ⊢
    refine rr ?_
    exact w_round hK1 (k + 1, x.1, x.2.1, x.2.2) ⟨by show k + 1 ≤ l.length; omega, hx, by rw [hchk, hstep, hn, hin, take_snoc he]; rfl⟩ (by show l.length - (k + 1) < l.length - k; omega) rfl ⟨rfl, rfl, rfl, rfl, rfl, trivial⟩
 ·obtain rfl : k = l.length := by omega
  rw [List.drop_length] at hchk
  refine rr ?_
  refine we () [] trivial (hv := ?_)
  unfold aloneF
  rw [hchk]
  simp [packR, chkL]
  try omega
end Go.Proofs.YtkolmklfgbimoaaGreatDoor
namespace Go.Proofs.YtkolmklfgbimoaaGreatDoor
open Go Go.Sx Go.Sx.Chunk
def goodE (n : Nat) (x : Sy) : Bool := decide (0 ≤ x.pl) && decide (x.pl ≤ (n : Int))
def goodO (o : Ob) : Bool := o.exps.all (goodE o.code.length) && (nameF o.name && (decide (o.code.length ≤ 4096) && (!o.code.any (fun i => !goodI i) && (decide (0 ≤ o.data) && (decide (o.data ≤ 32000) && (aloneF (o.exps.map Sy.name) && (aloneF o.imps && (decide (o.pats.length ≤ 4096) && !o.pats.any (fun p => !goodP o.code.length o.imps.length p)))))))))
set_option maxHeartbeats 8000000 in
theorem rightOC (o : Ob) (hok : OkOb o) : FnC (α := Unit) Tryz.prog 34 [obG o] [] (obS o) (fun _ => .bool (goodO o)) (fun _ => []) (fun _ => True) := by
 have hcl := hok.code
 have hel := hok.exps
 have hil := hok.imps
 have hpl := hok.pats
 obtain ⟨name, ka, cc, code, data, ea, ec, exps, ia, ic, imps, pa, pc, pats⟩ := o
 have hns : name.size ≤ maxLen := hok.name
 have hens := hok.ens
 have hins := hok.ins
 generalize hO : goodO ⟨name, ka, cc, code, data, ea, ec, exps, ia, ic, imps, pa, pc, pats⟩ = G
 unfold goodO at hO
 unfold obG obS
 dsimp only at hO hcl hel hil hpl hens hins ⊢
 refine fn_intro Tryz.func34 Tryz.ntmps34 rfl rfl rfl (fun w0 => ?_)
 try simp only [Sx.ap1, Sx.ap2, Sx.ap3]
 refine rr ?_
 intro b _
 refine w_turn (fun w hw => hw.row_nil 9 1) ?_
 refine rr ?_
 refine w_loop (α := Nat × Option Addr × Nat) (fun x => [(1, .pointer (some ⟨b, 0, none⟩)), (3, .slice x.2.1 x.1 x.2.2), (7, .slice ea exps.length ec), (8, .int .i64 (exps.length : Int)), (9, .int .i64 (x.1 : Int))])
  (fun x => [row x.2.1 x.2.2 9 1 x.1 (strC ((exps.take x.1).map Sy.name)), blk b [.string name, .slice ka code.length cc, .int .i64 data, .slice ea exps.length ec, .slice ia imps.length ic, .slice pa pats.length pc] 36, rng ka (insC code), rng ea (syC exps), rng ia (strC imps), rng pa (paC pats)])
  (fun x => x.1 ≤ exps.length ∧ (exps.take x.1).all (goodE code.length) = true) (fun x => exps.length - x.1) (0, none, 0) ⟨rfl, rfl, rfl, rfl, rfl, trivial⟩ rfl ⟨Nat.zero_le _, rfl⟩ ?_
 rintro ⟨k, ra, rc⟩ ⟨hk, hall⟩ K1 hK1
 dsimp only at hk hall ⊢
 by_cases hlt : k < exps.length
 ·obtain ⟨e, he⟩ := some_at hlt
  have h3 : ((syC exps).drop ((k : Int).toNat * 2)).take 2 = [.string e.name, .int .i64 e.pl] := syC_all he _ (by omega)
  have hsl := syC_len exps
  have hst : strC ((exps.take k).map Sy.name) ++ [Value.string e.name] = strC ((exps.take (k + 1)).map Sy.name) := by rw [take_snoc he]; simp [strC]
  refine w_use (fun w hw => (hw.pick 3 rfl).rng_some (by first | omega | decide | (simp; done) | (simp <;> omega))) ?_
  rintro ⟨g1, rfl⟩
  by_cases h0 : 0 ≤ e.pl
  ·by_cases h1 : e.pl ≤ (code.length : Int)
   ·have hg : goodE code.length e = true := by simp [goodE, h0, h1]
    refine rr ?_
    intro b1 _
    refine rr ?_
    intro b2 _
    refine rr ?_
    rintro ⟨a1, c1⟩ ⟨hc1, _⟩
    refine rr ?_
    rw [hst]
    refine w_sub [0, 1, 1, 1, 1, 1] rfl ?_
    exact w_round hK1 (k + 1, a1, c1) ⟨by show k + 1 ≤ exps.length; omega, all_take he hg hall⟩ (by show exps.length - (k + 1) < exps.length - k; omega) rfl ⟨rfl, rfl, rfl, rfl, rfl, trivial⟩
   ·have hg : goodE code.length e = false := by simp [goodE, h1]
    have hf : G = false := by rw [← hO, all_bad he hg]; rfl
    rw [hf]
    refine rr ?_
    intro b1 _
    refine rr ?_
    exact we () [] trivial
  ·have hg : goodE code.length e = false := by simp [goodE, h0]
   have hf : G = false := by rw [← hO, all_bad he hg]; rfl
   rw [hf]
   refine rr ?_
   intro b1 _
   refine rr ?_
   exact we () [] trivial
 ·obtain rfl : k = exps.length := by omega
  rw [List.take_length] at hall ⊢
  rw [hall] at hO
  refine rr ?_
  refine ca [] (rightNameC name hns) ?_
  intro x hx
  try simp only [Sx.ap1, Sx.ap2, Sx.ap3]
  generalize nameF name = r1 at hO ⊢
  cases r1
  ·subst hO
   refine rr ?_
   exact we () [] trivial
  by_cases h1 : code.length ≤ 4096
  ·rw [decide_eq_true h1] at hO
   refine rr ?_
   refine ca [] (containsIC ka cc code (by omega)) ?_
   intro x hx
   try simp only [Sx.ap1, Sx.ap2, Sx.ap3]
   generalize (code.any fun i => !goodI i) = r2 at hO ⊢
   cases r2
   ·by_cases h2 : 0 ≤ data
    ·by_cases h3 : data ≤ 32000
     ·rw [decide_eq_true h2, decide_eq_true h3] at hO
      have hel2 : (exps.map Sy.name).length = exps.length := by simp
      have hA := aloneC ra rc (exps.map Sy.name) (by simp; omega) (fun s hs => by obtain ⟨x, hx, rfl⟩ := List.mem_map.1 hs; exact hens x hx)
      rw [hel2] at hA
      refine rr ?_
      refine ca [] hA ?_
      intro x hx
      try simp only [Sx.ap1, Sx.ap2, Sx.ap3]
      generalize aloneF (exps.map Sy.name) = r3 at hO ⊢
      cases r3
      ·subst hO
       refine rr ?_
       exact we () [] trivial
      refine rr ?_
      refine ca [] (aloneC ia ic imps hil hins) ?_
      intro x hx
      try simp only [Sx.ap1, Sx.ap2, Sx.ap3]
      generalize aloneF imps = r4 at hO ⊢
      cases r4
      ·subst hO
       refine rr ?_
       exact we () [] trivial
      by_cases h4 : pats.length ≤ 4096
      ·rw [decide_eq_true h4] at hO
       refine rr ?_
       refine ca [] (containsPC ⟨name, ka, cc, code, data, ea, ec, exps, ia, ic, imps, pa, pc, pats⟩ b pa pc pats (by omega)) ?_
       intro x hx
       try simp only [Sx.ap1, Sx.ap2, Sx.ap3]
       subst hO
       refine rr ?_
       exact we () [] trivial
      ·rw [decide_eq_false h4] at hO
       subst hO
       refine rr ?_
       exact we () [] trivial
     ·rw [decide_eq_false h3] at hO
      simp at hO
      subst hO
      refine rr ?_
      exact we () [] trivial
    ·rw [decide_eq_false h2] at hO
     subst hO
     refine rr ?_
     exact we () [] trivial
   ·subst hO
    refine rr ?_
    exact we () [] trivial
  ·rw [decide_eq_false h1] at hO
   subst hO
   refine rr ?_
   exact we () [] trivial
end Go.Proofs.YtkolmklfgbimoaaGreatDoor
namespace Go.Proofs.YtkolmklfgbimoaaGreatDoor
open Go Go.Sx Go.Sx.Chunk
theorem goodO_parts (o : Ob) : goodO o = true ↔ (o.exps.all (goodE o.code.length) = true ∧ nameF o.name = true ∧ o.code.length ≤ 4096 ∧ o.code.any (fun i => !goodI i) = false ∧ 0 ≤ o.data ∧ o.data ≤ 32000 ∧ (chkL [] (o.exps.map Sy.name) = true ∧ o.exps.length ≤ 255) ∧ (chkL [] o.imps = true ∧ o.imps.length ≤ 255) ∧ o.pats.length ≤ 4096 ∧ o.pats.any (fun p => !goodP o.code.length o.imps.length p) = false) := by
 unfold goodO aloneF
 simp only [Bool.and_eq_true, decide_eq_true_eq, Bool.not_eq_true', List.length_map]
theorem inL_take_false {l : List ByteArray} {k : Nat} {s a : ByteArray} (h : l[k]? = some a) (ht : inL s (l.take k) = false) (hne : a ≠ s) : inL s (l.take (k + 1)) = false := by
 rw [take_snoc h, inL_app, ht]
 simp [inL, hne]
theorem inL_take_true {l : List ByteArray} {j k : Nat} {s a : ByteArray} (h : l[j]? = some a) (hjk : j < k) (he : a = s) : inL s (l.take k) = true := by
 unfold inL
 rw [List.any_eq_true]
 exact ⟨a, List.mem_of_getElem? (i := j) (by rw [List.getElem?_take, if_pos hjk, h]), by simp [he]⟩
theorem goodP_parts (nC nI : Nat) (p : Pa) : goodP nC nI p = false ↔ (p.pl < 0 ∨ (nC : Int) ≤ p.pl ∨ p.kind < 0 ∨ 4 < p.kind ∨ p.n < 0 ∨ (if p.kind = 2 then (nI : Int) - 1 else 0) < p.n) := by
 unfold goodP
 by_cases h : p.kind = 2
 ·simp [h]; omega
 ·simp [h]; omega
end Go.Proofs.YtkolmklfgbimoaaGreatDoor
namespace Go.Proofs.YtkolmklfgbimoaaGreatDoor
open Go Go.Sx Go.Sx.Chunk
def obC (l : List Ob) : List Value := l.flatMap obV
theorem obC_len (l : List Ob) : (obC l).length = l.length * 6 := flat_len (cells := obV) (sz := 6) (fun _ => rfl) l
theorem obC_all {l : List Ob} {k : Nat} {o : Ob} (h : l[k]? = some o) (n : Nat) (hn : n = k * 6) : ((obC l).drop n).take 6 = obV o := by subst hn; exact flat_get (cells := obV) (sz := 6) (fun _ => rfl) h
def seeO (l : List Ob) : Chunk := seeL (l.flatMap obS)
theorem obS_mem {l : List Ob} {o : Ob} {c : Chunk} (ho : o ∈ l) (hc : c ∈ obS o) : c ∈ l.flatMap obS := List.mem_flatMap.2 ⟨o, ho, hc⟩
theorem seeO_prov {l : List Ob} {o : Ob} {c : Chunk} (ho : o ∈ l) (hc : c ∈ obS o) : Prov [seeO l] c := see_mem (obS_mem ho hc)
theorem lend_ob {R : List Chunk} {k : Nat} {l : List Ob} {o : Ob} (hp : nthC R k = some (seeO l)) (ho : o ∈ l) : LendsAll R (obS o) := by
 have h := fun c (hc : c ∈ obS o) => (seeO_prov ho hc).one (prov_mem (nthC_mem hp))
 exact ⟨⟨rfl, (h _ (by simp [obS])).1, (h _ (by simp [obS])).2⟩, ⟨rfl, (h _ (by simp [obS])).1, (h _ (by simp [obS])).2⟩, ⟨rfl, (h _ (by simp [obS])).1, (h _ (by simp [obS])).2⟩, ⟨rfl, (h _ (by simp [obS])).1, (h _ (by simp [obS])).2⟩, trivial⟩
theorem wrongOC (o : Ob) (hok : OkOb o) : FnC (α := Unit) Tryz.prog 33 [obG o] [] (obS o) (fun _ => .bool (!goodO o)) (fun _ => []) (fun _ => True) := by
 unfold obG obS
 refine fn_intro Tryz.func33 Tryz.ntmps33 rfl rfl rfl (fun w0 => ?_)
 try simp only [Sx.ap1, Sx.ap2, Sx.ap3]
 refine rr ?_
 intro b _
 refine rr ?_
 refine ca [] (rightOC o hok) ?_
 intro x hx
 try simp only [Sx.ap1, Sx.ap2, Sx.ap3]
 refine rr ?_
 exact we () [] trivial
set_option maxHeartbeats 4000000 in
theorem indexOC (a : Option Addr) (c : Nat) (l : List Ob) (hl : l.length ≤ 100000) (hok : ∀ o ∈ l, OkOb o) :
  FnC Tryz.prog 73 [.slice a l.length c, .func (.func 33) #[] #[]] [] [rng a (obC l), seeO l] (fun v : Int => .int .i64 v) (fun _ => []) (fun v => decide (0 ≤ v) = l.any (fun o => !goodO o)) := by
 refine fn_intro Tryz.func73 Tryz.ntmps73 rfl rfl rfl (fun w0 => ?_)
 try simp only [Sx.ap1, Sx.ap2, Sx.ap3]
 refine rr ?_
 refine w_loop (α := Nat) (fun k => [(0, .slice a l.length c), (1, .func (.func 33) #[] #[]), (7, .int .i64 (l.length : Int)), (8, .int .i64 (k : Int))]) (fun k => [rng a (obC l), seeO l]) (fun k => k ≤ l.length ∧ (l.take k).any (fun o => !goodO o) = false) (fun k => l.length - k) 0 ⟨rfl, rfl, rfl, rfl, trivial⟩ rfl ⟨Nat.zero_le _, by simp⟩ ?_
 rintro k ⟨hk, hany⟩ K1 hK1
 by_cases hlt : k < l.length
 ·obtain ⟨e, he⟩ := some_at hlt
  have hmem := List.mem_of_getElem? he
  have hall : ((obC l).drop ((k : Int).toNat * 6)).take 6 = [.string e.name, .slice e.ca e.code.length e.cc, .int .i64 e.data, .slice e.ea e.exps.length e.ec, .slice e.ia e.imps.length e.ic, .slice e.pa e.pats.length e.pc] := obC_all he _ (by omega)
  have hlen := obC_len l
  refine w_use (fun w hw => (hw.pick 0 rfl).rng_some (by first | omega | decide | (simp; done) | (simp <;> omega))) ?_
  rintro ⟨g1, rfl⟩
  refine rr ?_
  refine cav [] (wrongOC e (hok e hmem)) (hl := lend_ob (k := 1) rfl hmem) ?_
  intro x hx
  try simp only [Sx.ap1, Sx.ap2, Sx.ap3]
  cases hg : goodO e with
  | true =>
   refine rr ?_
   exact w_round hK1 (k + 1) ⟨by omega, any_step he (by rw [hg]; rfl) hany⟩ (by show l.length - (k + 1) < l.length - k; omega) rfl ⟨rfl, rfl, rfl, rfl, trivial⟩
  | false =>
   refine rr ?_
   refine we (k : Int) [] (hx := ?_)
   rw [any_hit he (by rw [hg]; rfl)]
   simp
 ·obtain rfl : k = l.length := by omega
  rw [List.take_length] at hany
  refine rr ?_
  refine we (-1) [] (hx := ?_)
  rw [hany]
  rfl
theorem containsOC (a : Option Addr) (c : Nat) (l : List Ob) (hl : l.length ≤ 100000) (hok : ∀ o ∈ l, OkOb o) :
  FnC (α := Unit) Tryz.prog 32 [.slice a l.length c, .func (.func 33) #[] #[]] [] [rng a (obC l), seeO l] (fun _ => .bool (l.any (fun o => !goodO o))) (fun _ => []) (fun _ => True) := by
 refine fn_intro Tryz.func32 Tryz.ntmps32 rfl rfl rfl (fun w0 => ?_)
 try simp only [Sx.ap1, Sx.ap2, Sx.ap3]
 refine rr ?_
 refine ca [] (indexOC a c l hl hok) ?_
 intro x hx
 try simp only [Sx.ap1, Sx.ap2, Sx.ap3]
 refine rr ?_
 refine we () [] trivial (hv := ?_)
 rw [← hx]
 rfl
end Go.Proofs.YtkolmklfgbimoaaGreatDoor
namespace Go.Proofs.YtkolmklfgbimoaaGreatDoor
open Go Go.Sx Go.Sx.Chunk
theorem look_ob {w0 w : World} {M : Nat → Prop} {H : List Chunk} (hw : St w0 M w H) {k : Nat} {l : List Ob} {o : Ob} {c : Chunk} (hp : nthC H k = some (seeO l)) (ho : o ∈ l) (hc : c ∈ obS o) (hwr : c.wr = false) : St w0 M w (c :: H) :=
 hw.look hwr ((seeO_prov ho hc).one (prov_mem (List.mem_filter.2 ⟨nthC_mem hp, rfl⟩)))
abbrev Sym := ByteArray × Int
def mMap (l : List Sym) : List (ByteArray × Value) := l.map fun s => (s.1, .int .i64 s.2)
def symF (v : ByteArray) : List Sym → Option Int
 | [] => none
 | a :: l => if a.1 = v then some a.2 else symF v l
theorem atK_mMap (v : ByteArray) : ∀ l, atK (mMap l) v = (symF v l).map (Value.int .i64)
 | [] => rfl
 | a :: l => by
  have ih := atK_mMap v l
  simp only [mMap, List.map_cons, atK, symF] at ih ⊢
  by_cases h : a.1 = v
  ·subst h; simp
  ·have h' : ¬ v = a.1 := fun e => h e.symm
   rw [if_neg h]
   first | (rw [if_neg h]; exact ih) | (rw [if_neg h']; exact ih)
theorem putK_mMap (v : ByteArray) (n : Int) : ∀ l, symF v l = none → putK (mMap l) v (.int .i64 n) = mMap (l ++ [(v, n)])
 | [], _ => rfl
 | a :: l, h => by
  simp only [symF] at h
  by_cases ha : a.1 = v
  ·rw [if_pos ha] at h; cases h
  ·rw [if_neg ha] at h
   have ih := putK_mMap v n l h
   have h' : ¬ v = a.1 := fun e => ha e.symm
   simp only [mMap, List.map_cons, List.cons_append, putK] at ih ⊢
   first | rw [if_neg ha, ih] | rw [if_neg h', ih]
def expsF (at_ : Int) : List Sym → List Sy → Option (List Sym)
 | s, [] => some s
 | s, x :: l => match symF x.name s with
  | some _ => none
  | none => expsF at_ (s ++ [(x.name, at_ + x.pl)]) l
def namesF : List ByteArray → List Sym → Int → List Ob → Option (List Sym)
 | _, s, _, [] => some s
 | seen, s, at_, o :: l => if inL o.name seen then none else match expsF at_ s o.exps with
  | none => none
  | some s' => namesF (seen ++ [o.name]) s' (at_ + o.code.length) l
def atF (l : List Ob) (k : Nat) : Nat := ((l.take k).map fun o => o.code.length).sum
theorem atF_step {l : List Ob} {k : Nat} {o : Ob} (h : l[k]? = some o) : atF l (k + 1) = atF l k + o.code.length := by
 unfold atF
 rw [take_snoc h]; simp
theorem atF_le {l : List Ob} (h : ∀ o ∈ l, o.code.length ≤ 4096) : ∀ k, atF l k ≤ 4096 * k := by
 intro k
 induction k with
 | zero => simp [atF]
 | succ k ih =>
  cases hk : l[k]? with
  | none =>
   have : l.length ≤ k := by simpa using hk
   unfold atF at ih ⊢
   rw [List.take_of_length_le (by omega)] at ih ⊢
   exact Nat.le_trans ih (Nat.mul_le_mul_left _ (Nat.le_succ k))
  | some o =>
   rw [atF_step hk]
   have := h o (List.mem_of_getElem? hk)
   rw [Nat.mul_succ]
   exact Nat.add_le_add ih this
theorem namesF_step {seen : List ByteArray} {s : List Sym} {at_ : Int} {l : List Ob} {k : Nat} {o : Ob} (h : l[k]? = some o) : namesF seen s at_ (l.drop k) = if inL o.name seen then none else match expsF at_ s o.exps with
  | none => none
  | some s' => namesF (seen ++ [o.name]) s' (at_ + o.code.length) (l.drop (k + 1)) := by
 obtain ⟨hi, hb⟩ := List.getElem?_eq_some_iff.1 h
 rw [List.drop_eq_getElem_cons hi, hb]
 rfl
theorem expsF_step {s : List Sym} {at_ : Int} {l : List Sy} {k : Nat} {x : Sy} (h : l[k]? = some x) : expsF at_ s (l.drop k) = match symF x.name s with
  | some _ => none
  | none => expsF at_ (s ++ [(x.name, at_ + x.pl)]) (l.drop (k + 1)) := by
 obtain ⟨hi, hb⟩ := List.getElem?_eq_some_iff.1 h
 rw [List.drop_eq_getElem_cons hi, hb]
 rfl
def joC (j : Nat) (ca : Option Addr) (cn cc : Nat) (data : Int) (ba : Option Addr) (bn bc g : Nat) (mem : Int) : Chunk := blk j [.slice ca cn cc, .int .i64 data, .slice ba bn bc, .map (some g), .int .i64 mem] 90
def syM (g : Nat) (s : List Sym) : Chunk := mapC Value.string g (mMap s)
set_option maxHeartbeats 8000000 in
theorem namesC (j g : Nat) (mem : Int) (a : Option Addr) (c : Nat) (l : List Ob) (hl : l.length ≤ 1000) (hok : ∀ o ∈ l, OkOb o) (hgo : ∀ o ∈ l, o.code.length ≤ 4096 ∧ ∀ x ∈ o.exps, 0 ≤ x.pl ∧ x.pl ≤ 4096) :
  FnC Tryz.prog 35 [.pointer (some ⟨j, 0, none⟩), .slice a l.length c] [joC j none 0 0 0 none 0 0 g mem, syM g []] [rng a (obC l), seeO l] (fun s : List Sym => .bool (namesF [] [] 0 l).isSome) (fun s => [joC j none 0 0 0 none 0 0 g mem, syM g s]) (fun s => ∀ s0, namesF [] [] 0 l = some s0 → s = s0) := by
 refine fn_intro Tryz.func35 Tryz.ntmps35 rfl rfl rfl (fun w0 => ?_)
 try simp only [Sx.ap1, Sx.ap2, Sx.ap3]
 unfold joC syM
 refine rr ?_
 intro b _
 refine rr ?_
 refine w_turn (fun w hw => ((hw.row_nil 9 1).gen0).sub [2, 1, 0, 0, 0, 0, 0] (A := setH b none none 0 [] ++ [blk j [.slice none 0 0, .int .i64 0, .slice none 0 0, .map (some g), .int .i64 mem] 90, mapC Value.string g (mMap []), rng a (obC l), seeO l]) rfl) ?_
 refine w_loop (α := Nat × List Sym × Option Nat × Option Addr × Nat) (fun x => [(0, .pointer (some ⟨j, 0, none⟩)), (5, .pointer (some ⟨b, 0, none⟩)), (6, .int .i64 (atF l x.1 : Int)), (13, .slice a l.length c), (14, .int .i64 (l.length : Int)), (15, .int .i64 (x.1 : Int))])
  (fun x => setH b x.2.2.1 x.2.2.2.1 x.2.2.2.2 ((l.take x.1).map Ob.name) ++ [blk j [.slice none 0 0, .int .i64 0, .slice none 0 0, .map (some g), .int .i64 mem] 90, mapC Value.string g (mMap x.2.1), rng a (obC l), seeO l])
  (fun x => x.1 ≤ l.length ∧ setOk x.2.2.1 ((l.take x.1).map Ob.name) ∧ namesF [] [] 0 l = namesF ((l.take x.1).map Ob.name) x.2.1 (atF l x.1 : Int) (l.drop x.1)) (fun x => l.length - x.1) (0, [], none, none, 0) ⟨rfl, rfl, rfl, rfl, rfl, rfl, trivial⟩ rfl ⟨Nat.zero_le _, fun _ => rfl, rfl⟩ ?_
 rintro ⟨k, syms, m, oa, oc⟩ ⟨hk, hm, hspec⟩ K1 hK1
 dsimp only at hk hm hspec ⊢
 by_cases hlt : k < l.length
 ·obtain ⟨o, he⟩ := some_at hlt
  have hmem := List.mem_of_getElem? he
  have hall : ((obC l).drop ((k : Int).toNat * 6)).take 6 = [.string o.name, .slice o.ca o.code.length o.cc, .int .i64 o.data, .slice o.ea o.exps.length o.ec, .slice o.ia o.imps.length o.ic, .slice o.pa o.pats.length o.pc] := obC_all he _ (by omega)
  have hlen := obC_len l
  rw [namesF_step he] at hspec
  refine w_use (fun w hw => (hw.pick 5 rfl).rng_some (by first | omega | decide | (simp; done) | (simp <;> omega))) ?_
  rintro ⟨g1, rfl⟩
  refine rr ?_
  intro b8 _
  refine rr ?_
  refine ca [1, 1, 1] (setAddC b m oa oc ((l.take k).map Ob.name) o.name hm (by simp; omega)) (ho := fun _ => setW) ?_
  intro x hx
  cases hin : inL o.name ((l.take k).map Ob.name) with
  | true =>
   rw [hin] at hspec
   rw [if_pos rfl] at hspec
   simp only [if_true]
   rw [hspec]
   refine rr ?_
   exact we syms [4, 4] (fun s0 h => by cases h)
  | false =>
   rw [hin] at hspec hx
   simp only [if_false, Bool.false_eq_true] at hx hspec ⊢
   have hnm : (l.take k).map Ob.name ++ [o.name] = (l.take (k + 1)).map Ob.name := by rw [take_snoc he]; simp
   rw [hnm] at hx hspec ⊢
   have hgo1 := hgo o hmem
   have hat := atF_le (fun o ho => (hgo o ho).1) k
   refine rr ?_
   refine w_loop (α := Nat × List Sym) (fun y => [(0, .pointer (some ⟨j, 0, none⟩)), (5, .pointer (some ⟨b, 0, none⟩)), (6, .int .i64 (atF l k : Int)), (8, .pointer (some ⟨b8, 0, none⟩)), (13, .slice (some g1) l.length c), (14, .int .i64 (l.length : Int)), (15, .int .i64 (k : Int)), (24, .slice o.ea o.exps.length o.ec), (25, .int .i64 (o.exps.length : Int)), (26, .int .i64 (y.1 : Int))])
    (fun y => setH b x.1 x.2.1 x.2.2 ((l.take (k + 1)).map Ob.name) ++ [blk b8 [.string o.name, .slice o.ca o.code.length o.cc, .int .i64 o.data, .slice o.ea o.exps.length o.ec, .slice o.ia o.imps.length o.ic, .slice o.pa o.pats.length o.pc] 36, blk j [.slice none 0 0, .int .i64 0, .slice none 0 0, .map (some g), .int .i64 mem] 90, mapC Value.string g (mMap y.2), rng (some g1) (obC l), seeO l])
    (fun y => y.1 ≤ o.exps.length ∧ expsF (atF l k : Int) syms o.exps = expsF (atF l k : Int) y.2 (o.exps.drop y.1)) (fun y => o.exps.length - y.1) (0, syms) ⟨rfl, rfl, rfl, rfl, rfl, rfl, rfl, rfl, rfl, rfl, trivial⟩ rfl ⟨Nat.zero_le _, rfl⟩ ?_
   rintro ⟨i, sy⟩ ⟨hi, hexp⟩ K2 hK2
   dsimp only at hi hexp ⊢
   by_cases hil : i < o.exps.length
   ·obtain ⟨e, hee⟩ := some_at hil
    have hpl := hgo1.2 e (List.mem_of_getElem? hee)
    have hall2 : ((syC o.exps).drop ((i : Int).toNat * 2)).take 2 = [.string e.name, .int .i64 e.pl] := syC_all hee _ (by omega)
    have hsl := syC_len o.exps
    have hoe := hok o hmem
    have hel := hoe.exps
    rw [expsF_step hee] at hexp
    refine w_turn (fun w hw => look_ob hw (c := rng o.ea (syC o.exps)) (k := 7) rfl hmem (by simp [obS]) rfl) ?_
    generalize hea : o.ea = ea
    refine w_use (fun w hw => (hw.pick 0 rfl).rng_some (by first | omega | decide | (simp; done) | (simp <;> omega))) ?_
    rintro ⟨g2, rfl⟩
    refine rr ?_
    intro b9 _
    cases hs : symF e.name sy with
    | some v0 =>
     have hx1 : expsF (atF l k : Int) syms o.exps = none := hexp.trans (by rw [hs])
     have hs1 : namesF [] [] 0 l = none := by rw [hspec, hx1]
     rw [hs1]
     have hat2 := atK_mMap e.name sy
     rw [hs] at hat2
     simp only [Option.map_some] at hat2
     refine rr ?_
     refine dr [0, 1, 2, 3, 4, 5, 6, 7, 8, 9, 10, 11] [3, 5] [6, 0] ?_
     refine rr ?_
     rw [hat2]
     refine rr ?_
     exact we sy [6, 6] (fun s0 h => by cases h)
    | none =>
     have hx1 : expsF (atF l k : Int) syms o.exps = expsF (atF l k : Int) (sy ++ [(e.name, (atF l k : Int) + e.pl)]) (o.exps.drop (i + 1)) := hexp.trans (by rw [hs])
     have hat2 := atK_mMap e.name sy
     rw [hs] at hat2
     simp only [Option.map_none] at hat2
     have hput := putK_mMap e.name ((atF l k : Int) + e.pl) sy hs
     refine rr ?_
     refine dr [0, 1, 2, 3, 4, 5, 6, 7, 8, 9, 10, 11] [3, 5] [6, 0] ?_
     refine rr ?_
     rw [hat2]
     refine rr ?_
     refine dr [0, 1, 2, 3, 4, 5, 6, 7, 8, 9, 10] [3, 5, 8] [6, 0, 0] ?_
     refine rr ?_
     rw [hput]
     refine w_sub [3, 3, 3, 3, 3, 0, 2, 2] rfl ?_
     rw [← hea]
     exact w_round hK2 (i + 1, sy ++ [(e.name, (atF l k : Int) + e.pl)]) ⟨by show i + 1 ≤ o.exps.length; omega, hx1⟩ (by show o.exps.length - (i + 1) < o.exps.length - i; omega) rfl ⟨rfl, rfl, rfl, rfl, rfl, rfl, rfl, rfl, rfl, rfl, trivial⟩
   ·obtain rfl : i = o.exps.length := by omega
    rw [List.drop_length] at hexp
    have hx1 : expsF (atF l k : Int) syms o.exps = some sy := hexp
    rw [hx1] at hspec
    have hspec2 : namesF [] [] 0 l = namesF ((l.take (k + 1)).map Ob.name) sy ((atF l k : Int) + o.code.length) (l.drop (k + 1)) := hspec
    have hst := atF_step he
    have hat1 : ((atF l k : Int) + (o.code.length : Int)) = (atF l (k + 1) : Int) := by rw [hst]; omega
    rw [hat1] at hspec2
    refine rr ?_
    refine w_sub [0, 0, 0, 1, 1, 1, 1] rfl ?_
    rw [hat1]
    exact w_round hK1 (k + 1, sy, x.1, x.2.1, x.2.2) ⟨by show k + 1 ≤ l.length; omega, hx, hspec2⟩ (by show l.length - (k + 1) < l.length - k; omega) rfl ⟨rfl, rfl, rfl, rfl, rfl, rfl, trivial⟩
 ·obtain rfl : k = l.length := by omega
  rw [List.drop_length] at hspec
  rw [hspec]
  refine rr ?_
  exact we syms [3, 3] (fun s0 h => by simp [namesF] at h; exact h)
end Go.Proofs.YtkolmklfgbimoaaGreatDoor
namespace Go.Proofs.YtkolmklfgbimoaaGreatDoor
open Go Go.Sx Go.Sx.Chunk
def codeF (l : List Ob) : List In := l.flatMap Ob.code
def dataF (l : List Ob) : Int := (l.map Ob.data).sum
theorem codeF_len (l : List Ob) : (codeF l).length = (l.map fun o => o.code.length).sum := by simp [codeF, List.length_flatMap]
theorem codeF_take (l : List Ob) (k : Nat) : (codeF (l.take k)).length = atF l k := codeF_len _
theorem codeF_step {l : List Ob} {k : Nat} {o : Ob} (h : l[k]? = some o) : codeF (l.take (k + 1)) = codeF (l.take k) ++ o.code := by rw [take_snoc h]; simp [codeF]
theorem dataF_step {l : List Ob} {k : Nat} {o : Ob} (h : l[k]? = some o) : dataF (l.take (k + 1)) = dataF (l.take k) + o.data := by rw [take_snoc h]; simp [dataF]
theorem dataF_le {l : List Ob} (h : ∀ o ∈ l, 0 ≤ o.data ∧ o.data ≤ 32000) : 0 ≤ dataF l ∧ dataF l ≤ 32000 * (l.length : Int) := by
 induction l with
 | nil => simp [dataF]
 | cons o l ih =>
  have h1 := h o (by simp)
  have h2 := ih (fun x hx => h x (by simp [hx]))
  simp only [dataF, List.map_cons, List.sum_cons, List.length_cons] at h2 ⊢
  omega
abbrev Ba := Nat × Int
def baV (b : Ba) : List Value := [.int .i64 (b.1 : Int), .int .i64 b.2]
def baC (l : List Ba) : List Value := l.flatMap baV
theorem baC_len (l : List Ba) : (baC l).length = l.length * 2 := flat_len (cells := baV) (sz := 2) (fun _ => rfl) l
def baseK (l : List Ob) (k : Nat) : List Ba := (List.range k).map fun i => (atF l i, dataF (l.take i))
theorem baseK_step (l : List Ob) (k : Nat) : baseK l (k + 1) = baseK l k ++ [(atF l k, dataF (l.take k))] := by simp [baseK, List.range_succ]
theorem insC_app (a b : List In) : insC (a ++ b) = insC a ++ insC b := by simp [insC]
theorem baC_app (a : List Ba) (b : Ba) : baC (a ++ [b]) = baC a ++ baV b := by simp [baC]
theorem insC_one (l : List In) : ∀ u ∈ insC l, u.oneCell' = true := by
 intro u hu
 obtain ⟨i, _, hi⟩ := List.mem_flatMap.1 hu
 simp only [inV, List.mem_cons, List.not_mem_nil, or_false] at hi
 rcases hi with rfl | rfl | rfl | rfl | rfl <;> rfl
def joH (j : Nat) (x : Option Addr × Nat × Option Addr × Nat) (l : List Ob) (k : Nat) (g : Nat) (mem : Int) : List Chunk :=
 [joC j x.1 (atF l k) x.2.1 (dataF (l.take k)) x.2.2.1 k x.2.2.2 g mem, row x.1 x.2.1 105 5 (atF l k) (insC (codeF (l.take k))), row x.2.2.1 x.2.2.2 97 2 k (baC (baseK l k))]
set_option maxHeartbeats 8000000 in
theorem joinC (j g : Nat) (mem : Int) (a : Option Addr) (c : Nat) (l : List Ob) (hl : l.length ≤ 1000) (hgo : ∀ o ∈ l, o.code.length ≤ 4096) (hda : ∀ o ∈ l, 0 ≤ o.data ∧ o.data ≤ 32000) :
  FnC Tryz.prog 36 [.pointer (some ⟨j, 0, none⟩), .slice a l.length c] [joC j none 0 0 0 none 0 0 g mem] [rng a (obC l), seeO l] (fun x : Option Addr × Nat × Option Addr × Nat => .tuple #[]) (fun x => joH j x l l.length g mem) (fun _ => True) := by
 refine fn_intro Tryz.func36 Tryz.ntmps36 rfl rfl rfl (fun w0 => ?_)
 try simp only [Sx.ap1, Sx.ap2, Sx.ap3]
 refine w_turn (fun w hw => ((hw.row_nil 97 2).row_nil 105 5).sub [2, 0, 0, 0, 0] (A := joH j (none, 0, none, 0) l 0 g mem ++ [rng a (obC l), seeO l]) rfl) ?_
 refine rr ?_
 refine w_loop (α := Nat × Option Addr × Nat × Option Addr × Nat) (fun x => [(0, .pointer (some ⟨j, 0, none⟩)), (6, .slice a l.length c), (7, .int .i64 (l.length : Int)), (8, .int .i64 (x.1 : Int))])
  (fun x => joH j x.2 l x.1 g mem ++ [rng a (obC l), seeO l]) (fun x => x.1 ≤ l.length) (fun x => l.length - x.1) (0, none, 0, none, 0) ⟨rfl, rfl, rfl, rfl, trivial⟩ rfl (Nat.zero_le _) ?_
 rintro ⟨k, ra, rc, pa, pc⟩ hk K1 hK1
 dsimp only at hk ⊢
 by_cases hlt : k < l.length
 ·obtain ⟨o, he⟩ := some_at hlt
  have hmem := List.mem_of_getElem? he
  have hall : ((obC l).drop ((k : Int).toNat * 6)).take 6 = [.string o.name, .slice o.ca o.code.length o.cc, .int .i64 o.data, .slice o.ea o.exps.length o.ec, .slice o.ia o.imps.length o.ic, .slice o.pa o.pats.length o.pc] := obC_all he _ (by omega)
  have hlen := obC_len l
  have hgo1 := hgo o hmem
  have hda1 := hda o hmem
  have hat := atF_le hgo k
  have hat1 := atF_step he
  have hdt : 0 ≤ dataF (l.take k) ∧ dataF (l.take k) ≤ 32000 * ((l.take k).length : Int) := dataF_le (fun x hx => hda x (List.mem_of_mem_take hx))
  have hdl : (l.take k).length ≤ 1000 := by simp; omega
  have hdata1 := dataF_step he
  have hil := insC_len o.code
  have hio := insC_one o.code
  unfold joH joC
  simp only [List.cons_append, List.nil_append]
  refine w_use (fun w hw => (hw.pick 3 rfl).rng_some (by first | omega | decide | (simp; done) | (simp <;> omega))) ?_
  rintro ⟨g1, rfl⟩
  refine rr ?_
  intro b5 _
  refine rr ?_
  refine dr [0, 1, 2, 3, 4, 5, 6, 7, 8, 9, 10, 11, 12, 13, 14, 15, 16, 17, 18, 19, 20, 21] [4, 9, 15] [1, 1, 1] ?_
  refine rr ?_
  intro b6 _
  refine rr ?_
  rintro ⟨a1, c1⟩ ⟨hc1, _⟩
  refine rr ?_
  have hb : baC (baseK l k) ++ [Value.int IntKind.i64 (atF l k : Int), Value.int IntKind.i64 (dataF (l.take k))] = baC (baseK l (k + 1)) := by rw [baseK_step, baC_app]; rfl
  rw [hb]
  refine w_turn (fun w hw => look_ob hw (c := rng o.ca (insC o.code)) (k := 5) rfl hmem (by simp [obS]) rfl) ?_
  refine dr [0, 1, 2, 3, 4, 5, 6, 7, 8, 9, 10, 11, 12] [5, 7] [1, 3] ?_
  refine rr ?_
  rintro ⟨a2, c2⟩ hc2
  refine rr ?_
  refine dr [0, 1, 2, 3, 4, 5, 6, 7, 8, 9, 10, 11] [4, 6] [0, 4] ?_
  refine rr ?_
  rw [← insC_app, ← codeF_step he, ← hat1, ← hdata1]
  refine w_sub [0, 0, 1, 2, 2] rfl ?_
  exact w_round hK1 (k + 1, a2, c2, a1, c1) (by show k + 1 ≤ l.length; omega) (by show l.length - (k + 1) < l.length - k; omega) rfl ⟨rfl, rfl, rfl, rfl, trivial⟩
 ·obtain rfl : k = l.length := by omega
  refine rr ?_
  exact we (ra, rc, pa, pc) [0, 0, 0] trivial
end Go.Proofs.YtkolmklfgbimoaaGreatDoor
namespace Go.Proofs.YtkolmklfgbimoaaGreatDoor
open Go Go.Sx Go.Sx.Chunk
def inD : In := ⟨0, 0, 0, 0, 0⟩
def numF (b : Ba) (syms : List Sym) (all mem : Int) (imps : List ByteArray) (p : Pa) (n : Int) : Option Int :=
 if p.kind = 0 then some (n + (b.1 : Int)) else if p.kind = 1 then some (n + b.2) else if p.kind = 2 then symF (imps.getD p.n.toNat .empty) syms
 else if p.kind = 3 then some (n - all) else some (n + mem)
def patchF (code : List In) (b : Ba) (syms : List Sym) (all mem : Int) (imps : List ByteArray) (p : Pa) : Int × List In :=
 let i := code.getD (b.1 + p.pl.toNat) inD
 match numF b syms all mem imps p i.imm with
 | none => (5, code)
 | some n => if goodI ⟨i.op, i.a, i.b, i.c, n⟩ then (0, code.set (b.1 + p.pl.toNat) ⟨i.op, i.a, i.b, i.c, n⟩) else (3, code)
theorem flat_set {α : Type} {cells : α → List Value} {sz : Nat} (hc : ∀ a, (cells a).length = sz) : ∀ {l : List α} {k : Nat} (a : α), k < l.length → (l.flatMap cells).take (k * sz) ++ cells a ++ (l.flatMap cells).drop (k * sz + sz) = (l.set k a).flatMap cells
 | [], k, a, h => by simp at h
 | b :: l, 0, a, h => by
  rw [Nat.zero_mul, List.take_zero, List.nil_append, List.set_cons_zero, List.flatMap_cons, List.flatMap_cons, Nat.zero_add, List.drop_left' (hc b)]
 | b :: l, k + 1, a, h => by
  have ih := flat_set hc (l := l) (k := k) a (by simpa using h)
  rw [List.set_cons_succ, List.flatMap_cons, List.flatMap_cons, ← ih]
  have e1 : (k + 1) * sz = (cells b).length + k * sz := by rw [hc, Nat.add_mul]; omega
  rw [e1, List.take_length_add_append, Nat.add_assoc, List.drop_length_add_append]
  simp
theorem insC_set {code : List In} {k : Nat} (e : In) {N : Nat} (h : k < code.length) (hN : N = k * 5) : (insC code).take N ++ [Value.int .i64 e.op, .int .i64 e.a, .int .i64 e.b, .int .i64 e.c, .int .i64 e.imm] ++ (insC code).drop (N + 5) = insC (code.set k e) := by
 subst hN; exact flat_set (cells := inV) (sz := 5) (fun _ => rfl) e h
theorem goodI_imm {i : In} (h : goodI i = true) : -32768 ≤ i.imm ∧ i.imm ≤ 32767 := by
 unfold goodI at h
 simp only [Bool.and_eq_true, Bool.or_eq_true, decide_eq_true_eq] at h
 rcases h.2 with h | ⟨_, h⟩
 ·omega
 ·unfold numI fits16 at h
  split at h
  ·simp at h; omega
  ·split at h
   ·simp at h; omega
   ·split at h
    ·simp at h; omega
    ·simp at h; omega
set_option maxHeartbeats 16000000 in
theorem patchC (j g : Nat) (mem all : Int) (ca ba : Option Addr) (cc bn bc : Nat) (code : List In) (syms : List Sym) (o : Ob) (b : Ba) (p : Pa) (hok : OkOb o) (hg : goodP o.code.length o.imps.length p = true) (hb : b.1 + o.code.length ≤ code.length) (hcl : code.length ≤ 5000) (hmem : 0 ≤ mem ∧ mem ≤ 32000) (hall : 0 ≤ all ∧ all ≤ 32000) (hb2 : 0 ≤ b.2 ∧ b.2 ≤ 32000) (hgc : ∀ i ∈ code, goodI i = true) :
  FnC (α := Unit) Tryz.prog 37 [.pointer (some ⟨j, 0, none⟩), obG o, .agg #[.int .i64 (b.1 : Int), .int .i64 b.2], paG p] [joC j ca code.length cc all ba bn bc g mem, row ca cc 105 5 code.length (insC code), syM g syms] [rng o.ia (strC o.imps)] (fun _ => .int .i64 (patchF code b syms all mem o.imps p).1)
   (fun _ => [joC j ca code.length cc all ba bn bc g mem, row ca cc 105 5 code.length (insC (patchF code b syms all mem o.imps p).2), syM g syms]) (fun _ => True) := by
 have hg' : ¬ goodP o.code.length o.imps.length p = false := by rw [hg]; decide
 rw [goodP_parts] at hg'
 have hlt : b.1 + p.pl.toNat < code.length := by omega
 obtain ⟨e, he⟩ := some_at hlt
 have hgi := hgc e (List.mem_of_getElem? he)
 have hgd : code.getD (b.1 + p.pl.toNat) inD = e := by simp [he]
 have hall5 : ((insC code).drop (0 + ((b.1 : Int) + p.pl).toNat * 5)).take 5 = [.int .i64 e.op, .int .i64 e.a, .int .i64 e.b, .int .i64 e.c, .int .i64 e.imm] := insC_all he _ (by omega)
 have hil := insC_len code
 unfold patchF
 rw [hgd]
 dsimp only
 obtain ⟨onm, oca, occ, ocode, odata, oea, oec, oexps, oia, oic, oimps, opa, opc, opats⟩ := o
 unfold obG paG joC syM
 dsimp only at hg' hb ⊢
 refine fn_intro Tryz.func37 Tryz.ntmps37 rfl rfl rfl (fun w0 => ?_)
 try simp only [Sx.ap1, Sx.ap2, Sx.ap3]
 refine w_use (fun w hw => (hw.pick 1 rfl).row_some (by first | omega | decide | (simp; done) | (simp <;> omega))) ?_
 rintro ⟨g1, rfl⟩
 refine rr ?_
 intro b5 _
 refine rr ?_
 intro b6 _
 refine rr ?_
 intro b7 _
 refine rr ?_
 intro b10 _
 refine rr ?_
 have hgr : -32768 ≤ e.imm ∧ e.imm ≤ 32767 := goodI_imm hgi
 unfold numF
 by_cases h0 : p.kind = 0
 ·rw [if_pos h0]
  dsimp only
  refine rr ?_
  refine ca [] (rightIC ⟨e.op, e.a, e.b, e.c, (e.imm + (b.1 : Int))⟩) ?_
  intro x hx
  try simp only [Sx.ap1, Sx.ap2, Sx.ap3]
  cases hg2 : goodI ⟨e.op, e.a, e.b, e.c, (e.imm + (b.1 : Int))⟩ with
  | false =>
   refine rr ?_
   exact we () [4, 4, 4] trivial
  | true =>
   refine rr ?_
   refine dr [0, 1, 2, 3, 4, 5, 6, 7, 8] [4, 6] [4, 0] ?_
   refine rr ?_
   have hset := insC_set ⟨e.op, e.a, e.b, e.c, (e.imm + (b.1 : Int))⟩ hlt (N := 0 + ((b.1 : Int) + p.pl).toNat * 5) (by omega)
   dsimp only at hset
   refine w_sub [5, 0, 4] (H' := [_, row (some ⟨g1, 0, none⟩) cc 105 5 code.length (insC (code.set (b.1 + p.pl.toNat) ⟨e.op, e.a, e.b, e.c, (e.imm + (b.1 : Int))⟩)), _]) (by rw [← hset]; rfl) ?_
   exact we () [0, 0, 0] trivial
 ·rw [if_neg h0]
  by_cases h1 : p.kind = 1
  ·rw [if_pos h1]
   dsimp only
   refine rr ?_
   refine ca [] (rightIC ⟨e.op, e.a, e.b, e.c, (e.imm + b.2)⟩) ?_
   intro x hx
   try simp only [Sx.ap1, Sx.ap2, Sx.ap3]
   cases hg2 : goodI ⟨e.op, e.a, e.b, e.c, (e.imm + b.2)⟩ with
   | false =>
    refine rr ?_
    exact we () [4, 4, 4] trivial
   | true =>
    refine rr ?_
    refine dr [0, 1, 2, 3, 4, 5, 6, 7, 8] [4, 6] [4, 0] ?_
    refine rr ?_
    have hset := insC_set ⟨e.op, e.a, e.b, e.c, (e.imm + b.2)⟩ hlt (N := 0 + ((b.1 : Int) + p.pl).toNat * 5) (by omega)
    dsimp only at hset
    refine w_sub [5, 0, 4] (H' := [_, row (some ⟨g1, 0, none⟩) cc 105 5 code.length (insC (code.set (b.1 + p.pl.toNat) ⟨e.op, e.a, e.b, e.c, (e.imm + b.2)⟩)), _]) (by rw [← hset]; rfl) ?_
    exact we () [0, 0, 0] trivial
  ·rw [if_neg h1]
   by_cases h2 : p.kind = 2
   ·rw [if_pos h2]
    rw [if_pos h2] at hg'
    have hnl : p.n.toNat < oimps.length := by omega
    obtain ⟨sn, hsn⟩ := some_at hnl
    have hsd : oimps.getD p.n.toNat .empty = sn := by simp [hsn]
    have hst : (strC oimps)[p.n.toNat * 1]? = some (.string sn) := by rw [Nat.mul_one]; exact strC_at hsn
    have hsl := strC_len oimps
    rw [hsd]
    have hat2 := atK_mMap sn syms
    refine w_use (fun w hw => (hw.pick 7 rfl).rng_some (by first | omega | decide | (simp; done) | (simp <;> omega))) ?_
    rintro ⟨g2, rfl⟩
    cases hs : symF sn syms with
    | none =>
     rw [hs] at hat2
     simp only [Option.map_none] at hat2
     dsimp only
     refine rr ?_
     refine dr [0, 1, 2, 3, 4, 5, 6, 7, 8, 9, 10, 11, 12, 13, 14, 15] [3, 5, 7, 9] [4, 3, 1, 7] ?_
     refine rr ?_
     rw [hat2]
     refine rr ?_
     exact we () [4, 4, 4] trivial
    | some tq =>
     rw [hs] at hat2
     simp only [Option.map_some] at hat2
     dsimp only
     refine rr ?_
     refine dr [0, 1, 2, 3, 4, 5, 6, 7, 8, 9, 10, 11, 12, 13, 14, 15] [3, 5, 7, 9] [4, 3, 1, 7] ?_
     refine rr ?_
     rw [hat2]
     refine rr ?_
     refine ca [] (rightIC ⟨e.op, e.a, e.b, e.c, tq⟩) ?_
     intro x hx
     try simp only [Sx.ap1, Sx.ap2, Sx.ap3]
     cases hg2 : goodI ⟨e.op, e.a, e.b, e.c, tq⟩ with
     | false =>
      refine rr ?_
      exact we () [4, 4, 4] trivial
     | true =>
      refine rr ?_
      refine dr [0, 1, 2, 3, 4, 5, 6, 7, 8] [4, 6] [4, 0] ?_
      refine rr ?_
      have hset := insC_set ⟨e.op, e.a, e.b, e.c, tq⟩ hlt (N := 0 + ((b.1 : Int) + p.pl).toNat * 5) (by omega)
      dsimp only at hset
      refine w_sub [5, 0, 4] (H' := [_, row (some ⟨g1, 0, none⟩) cc 105 5 code.length (insC (code.set (b.1 + p.pl.toNat) ⟨e.op, e.a, e.b, e.c, tq⟩)), _]) (by rw [← hset]; rfl) ?_
      exact we () [0, 0, 0] trivial
   ·rw [if_neg h2]
    by_cases h3 : p.kind = 3
    ·rw [if_pos h3]
     dsimp only
     refine rr ?_
     refine dr [0, 1, 2, 3, 4, 5, 6, 7, 8, 9] [1, 6] [0, 4] ?_
     refine rr ?_
     refine rr ?_
     refine ca [] (rightIC ⟨e.op, e.a, e.b, e.c, (e.imm - all)⟩) ?_
     intro x hx
     try simp only [Sx.ap1, Sx.ap2, Sx.ap3]
     cases hg2 : goodI ⟨e.op, e.a, e.b, e.c, (e.imm - all)⟩ with
     | false =>
      refine rr ?_
      exact we () [4, 4, 4] trivial
     | true =>
      refine rr ?_
      refine dr [0, 1, 2, 3, 4, 5, 6, 7, 8] [4, 6] [4, 0] ?_
      refine rr ?_
      have hset := insC_set ⟨e.op, e.a, e.b, e.c, (e.imm - all)⟩ hlt (N := 0 + ((b.1 : Int) + p.pl).toNat * 5) (by omega)
      dsimp only at hset
      refine w_sub [5, 0, 4] (H' := [_, row (some ⟨g1, 0, none⟩) cc 105 5 code.length (insC (code.set (b.1 + p.pl.toNat) ⟨e.op, e.a, e.b, e.c, (e.imm - all)⟩)), _]) (by rw [← hset]; rfl) ?_
      exact we () [0, 0, 0] trivial
    ·rw [if_neg h3]
     have h4 : p.kind = 4 := by omega
     dsimp only
     refine rr ?_
     refine dr [0, 1, 2, 3, 4, 5, 6, 7, 8] [1, 5] [0, 4] ?_
     refine rr ?_
     refine rr ?_
     refine ca [] (rightIC ⟨e.op, e.a, e.b, e.c, (e.imm + mem)⟩) ?_
     intro x hx
     try simp only [Sx.ap1, Sx.ap2, Sx.ap3]
     cases hg2 : goodI ⟨e.op, e.a, e.b, e.c, (e.imm + mem)⟩ with
     | false =>
      refine rr ?_
      exact we () [4, 4, 4] trivial
     | true =>
      refine rr ?_
      refine dr [0, 1, 2, 3, 4, 5, 6, 7, 8] [4, 6] [4, 0] ?_
      refine rr ?_
      have hset := insC_set ⟨e.op, e.a, e.b, e.c, (e.imm + mem)⟩ hlt (N := 0 + ((b.1 : Int) + p.pl).toNat * 5) (by omega)
      dsimp only at hset
      refine w_sub [5, 0, 4] (H' := [_, row (some ⟨g1, 0, none⟩) cc 105 5 code.length (insC (code.set (b.1 + p.pl.toNat) ⟨e.op, e.a, e.b, e.c, (e.imm + mem)⟩)), _]) (by rw [← hset]; rfl) ?_
      exact we () [0, 0, 0] trivial
end Go.Proofs.YtkolmklfgbimoaaGreatDoor
namespace Go.Proofs.YtkolmklfgbimoaaGreatDoor
open Go Go.Sx Go.Sx.Chunk
def patsF (b : Ba) (syms : List Sym) (all mem : Int) (imps : List ByteArray) : List In → List Pa → Int × List In
 | code, [] => (0, code)
 | code, p :: l => let r := patchF code b syms all mem imps p
  if r.1 = 0 then patsF b syms all mem imps r.2 l else r
def objsF (syms : List Sym) (all mem : Int) : List In → List (Ba × Ob) → Int × List In
 | code, [] => (0, code)
 | code, x :: l => let r := patsF x.1 syms all mem x.2.imps code x.2.pats
  if r.1 = 0 then objsF syms all mem r.2 l else r
def linkF (l : List Ob) (mem : Int) : List In × Int × Int :=
 if l.length = 0 ∨ mem < 0 ∨ 32000 < mem ∨ l.any (fun o => !goodO o) = true then ([], 0, 1)
 else match namesF [] [] 0 l with
  | none => ([], 0, 6)
  | some syms => if 4096 < (codeF l).length ∨ mem < dataF l then ([], 0, 4)
   else let r := objsF syms (dataF l) mem (codeF l) ((baseK l l.length).zip l)
    if r.1 = 0 then (r.2, dataF l, 0) else ([], 0, r.1)
theorem patchF_len (code : List In) (b : Ba) (syms : List Sym) (all mem : Int) (imps : List ByteArray) (p : Pa) : (patchF code b syms all mem imps p).2.length = code.length := by
 unfold patchF
 dsimp only
 split
 ·rfl
 ·split <;> simp
theorem patchF_good {code : List In} {b : Ba} {syms : List Sym} {all mem : Int} {imps : List ByteArray} {p : Pa} (h : ∀ i ∈ code, goodI i = true) : ∀ i ∈ (patchF code b syms all mem imps p).2, goodI i = true := by
 unfold patchF
 dsimp only
 split
 ·exact h
 ·split
  ·intro i hi
   rcases List.mem_or_eq_of_mem_set hi with hi | rfl
   ·exact h i hi
   ·assumption
  ·exact h
end Go.Proofs.YtkolmklfgbimoaaGreatDoor
namespace Go.Proofs.YtkolmklfgbimoaaGreatDoor
open Go Go.Sx Go.Sx.Chunk
theorem atF_in {l : List Ob} {k : Nat} {o : Ob} (h : l[k]? = some o) : atF l k + o.code.length ≤ atF l l.length := by
 rw [← atF_step h]
 rw [← codeF_take, ← codeF_take, List.take_length]
 have : codeF l = codeF (l.take (k + 1)) ++ codeF (l.drop (k + 1)) := by
  unfold codeF
  rw [← List.flatMap_append, List.take_append_drop]
 rw [this, List.length_append]
 omega
theorem dataF_mono {l : List Ob} (h : ∀ o ∈ l, 0 ≤ o.data ∧ o.data ≤ 32000) (k : Nat) : dataF (l.take k) ≤ dataF l := by
 have h2 := (dataF_le (l := l.drop k) (fun o ho => h o (List.mem_of_mem_drop ho))).1
 have : dataF l = dataF (l.take k) + dataF (l.drop k) := by
  unfold dataF
  rw [← List.sum_append_int, ← List.map_append, List.take_append_drop]
 omega
theorem patsF_cons (b : Ba) (syms : List Sym) (all mem : Int) (imps : List ByteArray) (code : List In) (p : Pa) (l : List Pa) : patsF b syms all mem imps code (p :: l) = if (patchF code b syms all mem imps p).1 = 0 then patsF b syms all mem imps (patchF code b syms all mem imps p).2 l else patchF code b syms all mem imps p := rfl
theorem patsF_nil (b : Ba) (syms : List Sym) (all mem : Int) (imps : List ByteArray) (code : List In) : patsF b syms all mem imps code [] = (0, code) := rfl
theorem objsF_cons (syms : List Sym) (all mem : Int) (code : List In) (x : Ba × Ob) (l : List (Ba × Ob)) : objsF syms all mem code (x :: l) = if (patsF x.1 syms all mem x.2.imps code x.2.pats).1 = 0 then objsF syms all mem (patsF x.1 syms all mem x.2.imps code x.2.pats).2 l else patsF x.1 syms all mem x.2.imps code x.2.pats := rfl
theorem objsF_nil (syms : List Sym) (all mem : Int) (code : List In) : objsF syms all mem code [] = (0, code) := rfl
def linkV (r : List In × Int × Int) (x : Option Addr × Nat) : Value := .tuple #[.agg #[.slice x.1 r.1.length x.2, .int .i64 r.2.1], .int .i64 r.2.2]
set_option maxHeartbeats 16000000 in
theorem linkC (a : Option Addr) (c : Nat) (l : List Ob) (mem : Int) (hl : l.length ≤ 1000) (hok : ∀ o ∈ l, OkOb o) :
  FnC Tryz.prog 14 [.slice a l.length c, .int .i64 mem] [] [rng a (obC l), seeO l] (fun x : Option Addr × Nat => linkV (linkF l mem) x) (fun x => [row x.1 x.2 105 5 (linkF l mem).1.length (insC (linkF l mem).1)]) (fun _ => True) := by
 refine fn_intro Tryz.func14 Tryz.ntmps14 rfl rfl rfl (fun w0 => ?_)
 try simp only [Sx.ap1, Sx.ap2, Sx.ap3]
 unfold linkV
 by_cases h1 : l.length = 0
 ·have hf : linkF l mem = ([], 0, 1) := by unfold linkF; rw [if_pos (.inl h1)]
  rw [hf]
  refine rr ?_
  intro b4 _
  refine rr ?_
  refine w_turn (fun w hw => hw.row_nil 105 5) ?_
  exact we (none, 0) [0] trivial
 by_cases h2 : mem < 0
 ·have hf : linkF l mem = ([], 0, 1) := by unfold linkF; rw [if_pos (.inr (.inl h2))]
  rw [hf]
  refine rr ?_
  intro b4 _
  refine rr ?_
  refine w_turn (fun w hw => hw.row_nil 105 5) ?_
  exact we (none, 0) [0] trivial
 by_cases h3 : 32000 < mem
 ·have hf : linkF l mem = ([], 0, 1) := by unfold linkF; rw [if_pos (.inr (.inr (.inl h3)))]
  rw [hf]
  refine rr ?_
  intro b4 _
  refine rr ?_
  refine w_turn (fun w hw => hw.row_nil 105 5) ?_
  exact we (none, 0) [0] trivial
 refine rr ?_
 intro b4 _
 refine rr ?_
 refine ca [] (containsOC a c l (by omega) hok) ?_
 intro x hx
 try simp only [Sx.ap1, Sx.ap2, Sx.ap3]
 cases h4 : l.any (fun o => !goodO o) with
 | true =>
  have hf : linkF l mem = ([], 0, 1) := by unfold linkF; rw [if_pos (.inr (.inr (.inr h4)))]
  rw [hf]
  refine rr ?_
  refine w_turn (fun w hw => hw.row_nil 105 5) ?_
  exact we (none, 0) [0] trivial
 | false =>
 have hgood : ∀ o ∈ l, goodO o = true := fun o ho => by
  rw [List.any_eq_false] at h4
  have := h4 o ho
  simpa using this
 have hcode : ∀ o ∈ l, o.code.length ≤ 4096 := fun o ho => ((goodO_parts o).1 (hgood o ho)).2.2.1
 have hdata : ∀ o ∈ l, 0 ≤ o.data ∧ o.data ≤ 32000 := fun o ho => ⟨((goodO_parts o).1 (hgood o ho)).2.2.2.2.1, ((goodO_parts o).1 (hgood o ho)).2.2.2.2.2.1⟩
 have hexps : ∀ o ∈ l, o.code.length ≤ 4096 ∧ ∀ x ∈ o.exps, 0 ≤ x.pl ∧ x.pl ≤ 4096 := fun o ho => ⟨hcode o ho, fun x hx => by
  have h5 := ((goodO_parts o).1 (hgood o ho)).1
  rw [List.all_eq_true] at h5
  have h6 := h5 x hx
  have h7 := hcode o ho
  simp only [goodE, Bool.and_eq_true, decide_eq_true_eq] at h6
  omega⟩
 refine rr ?_
 intro g _
 show Wd _ _ (mapC Value.string g (mMap []) :: _) _
 refine rr ?_
 intro j _
 refine rr ?_
 refine ca [0, 0] (namesC j g mem a c l hl hok hexps) ?_
 intro x hx
 try simp only [Sx.ap1, Sx.ap2, Sx.ap3]
 have hcond : ¬ (l.length = 0 ∨ mem < 0 ∨ 32000 < mem ∨ l.any (fun o => !goodO o) = true) := by
  rintro (h | h | h | h)
  ·exact h1 h
  ·exact h2 h
  ·exact h3 h
  ·rw [h4] at h; cases h
 obtain ⟨sy, hsy⟩ : ∃ sy, sy = x := ⟨x, rfl⟩
 subst hsy
 cases h5 : namesF [] [] 0 l with
 | none =>
  have hf : linkF l mem = ([], 0, 6) := by unfold linkF; rw [if_neg hcond, h5]
  rw [hf]
  refine rr ?_
  refine w_turn (fun w hw => hw.row_nil 105 5) ?_
  exact we (none, 0) [0] trivial
 | some syms =>
 have hxs := hx syms h5
 clear hx
 subst hxs
 refine rr ?_
 refine ca [0] (joinC j g mem a c l hl hcode hdata) ?_
 intro x hx
 try simp only [Sx.ap1, Sx.ap2, Sx.ap3]
 obtain ⟨ra, rc, ba, bc⟩ := x
 have hat := atF_le hcode l.length
 have hdt := dataF_le hdata
 have hl7 : ∀ k, dataF (l.take k) ≤ dataF l := dataF_mono hdata
 have hcl : (codeF l).length = atF l l.length := by have := codeF_take l l.length; rwa [List.take_length] at this
 unfold joH joC
 rw [List.take_length]
 dsimp only
 simp only [List.cons_append, List.nil_append]
 by_cases h6 : 4096 < atF l l.length
 ·have hf : linkF l mem = ([], 0, 4) := by unfold linkF; rw [if_neg hcond, h5]; dsimp only; rw [if_pos (.inl (by omega))]
  rw [hf]
  refine rr ?_
  refine w_turn (fun w hw => hw.row_nil 105 5) ?_
  exact we (none, 0) [0] trivial
 by_cases h7 : mem < dataF l
 ·have hf : linkF l mem = ([], 0, 4) := by unfold linkF; rw [if_neg hcond, h5]; dsimp only; rw [if_pos (.inr h7)]
  rw [hf]
  refine rr ?_
  refine w_turn (fun w hw => hw.row_nil 105 5) ?_
  exact we (none, 0) [0] trivial
 have hf : linkF l mem = if (objsF sy (dataF l) mem (codeF l) ((baseK l l.length).zip l)).1 = 0 then ((objsF sy (dataF l) mem (codeF l) ((baseK l l.length).zip l)).2, dataF l, 0) else ([], 0, (objsF sy (dataF l) mem (codeF l) ((baseK l l.length).zip l)).1) := by
  unfold linkF; rw [if_neg hcond, h5]; dsimp only; rw [if_neg (by omega)]
 have hz : ∀ k o, l[k]? = some o → ((baseK l l.length).zip l)[k]? = some ((atF l k, dataF (l.take k)), o) := fun k o h => by
  have hk := (List.getElem?_eq_some_iff.1 h).1
  rw [List.getElem?_zip_eq_some]
  refine ⟨?_, h⟩
  simp [baseK, hk]
 have hzl : ((baseK l l.length).zip l).length = l.length := by simp [baseK]
 generalize (baseK l l.length).zip l = z at hf hz hzl
 generalize hR : objsF sy (dataF l) mem (codeF l) z = R at hf
 have hgc0 : ∀ i ∈ codeF l, goodI i = true := fun i hi => by
  obtain ⟨o, ho, hi⟩ := List.mem_flatMap.1 hi
  have h8 := ((goodO_parts o).1 (hgood o ho)).2.2.2.1
  rw [List.any_eq_false] at h8
  have := h8 i hi
  simpa using this
 rw [hf]
 refine rr ?_
 refine w_loop (α := Nat × List In) (fun x => [(1, .int .i64 mem), (4, .pointer (some ⟨b4, 0, none⟩)), (6, .pointer (some ⟨j, 0, none⟩)), (57, .slice a l.length c), (58, .int .i64 (l.length : Int)), (59, .int .i64 (x.1 : Int))])
  (fun x => [blk j [.slice ra (atF l l.length) rc, .int .i64 (dataF l), .slice ba l.length bc, .map (some g), .int .i64 mem] 90, row ra rc 105 5 (atF l l.length) (insC x.2), row ba bc 97 2 l.length (baC (baseK l l.length)), mapC Value.string g (mMap sy), blk b4 [.slice none 0 0, .int .i64 0] 26, rng a (obC l), seeO l])
  (fun x => x.1 ≤ l.length ∧ x.2.length = atF l l.length ∧ (∀ i ∈ x.2, goodI i = true) ∧ R = objsF sy (dataF l) mem x.2 (z.drop x.1)) (fun x => l.length - x.1) (0, codeF l) ⟨rfl, rfl, rfl, rfl, rfl, rfl, trivial⟩ rfl ⟨Nat.zero_le _, hcl, hgc0, hR.symm⟩ ?_
 rintro ⟨k, code⟩ ⟨hk, hcn, hgc, hRk⟩ K1 hK1
 dsimp only at hk hcn hgc hRk ⊢
 by_cases hlt : k < l.length
 ·obtain ⟨o, he⟩ := some_at hlt
  have hmem := List.mem_of_getElem? he
  have hzk := hz k o he
  have hdrop : z.drop k = ((atF l k, dataF (l.take k)), o) :: z.drop (k + 1) := by
   obtain ⟨hi, hb⟩ := List.getElem?_eq_some_iff.1 hzk
   rw [List.drop_eq_getElem_cons hi, hb]
  rw [hdrop] at hRk
  have hall : ((obC l).drop ((k : Int).toNat * 6)).take 6 = [.string o.name, .slice o.ca o.code.length o.cc, .int .i64 o.data, .slice o.ea o.exps.length o.ec, .slice o.ia o.imps.length o.ic, .slice o.pa o.pats.length o.pc] := obC_all he _ (by omega)
  have hlen := obC_len l
  refine rr ?_
  intro b8 _
  refine rr ?_
  refine w_turn (fun w hw => look_ob hw (c := rng o.pa (paC o.pats)) (k := 7) rfl hmem (by simp [obS]) rfl) ?_
  have hoe := hok o hmem
  have hpl := hoe.pats
  have hgp := ((goodO_parts o).1 (hgood o hmem)).2.2.2.2.2.2.2.2
  refine w_loop (α := Nat × List In) (fun x => [(1, .int .i64 mem), (4, .pointer (some ⟨b4, 0, none⟩)), (6, .pointer (some ⟨j, 0, none⟩)), (7, .int .i64 (k : Int)), (8, .pointer (some ⟨b8, 0, none⟩)), (57, .slice a l.length c), (58, .int .i64 (l.length : Int)), (59, .int .i64 (k : Int)), (65, .slice o.pa o.pats.length o.pc), (66, .int .i64 (o.pats.length : Int)), (67, .int .i64 (x.1 : Int))])
   (fun x => [rng o.pa (paC o.pats), blk b8 [.string o.name, .slice o.ca o.code.length o.cc, .int .i64 o.data, .slice o.ea o.exps.length o.ec, .slice o.ia o.imps.length o.ic, .slice o.pa o.pats.length o.pc] 36, blk j [.slice ra (atF l l.length) rc, .int .i64 (dataF l), .slice ba l.length bc, .map (some g), .int .i64 mem] 90, row ra rc 105 5 (atF l l.length) (insC x.2), row ba bc 97 2 l.length (baC (baseK l l.length)), mapC Value.string g (mMap sy), blk b4 [.slice none 0 0, .int .i64 0] 26, rng a (obC l), seeO l])
   (fun x => x.1 ≤ o.pats.length ∧ x.2.length = atF l l.length ∧ (∀ i ∈ x.2, goodI i = true) ∧ patsF (atF l k, dataF (l.take k)) sy (dataF l) mem o.imps code o.pats = patsF (atF l k, dataF (l.take k)) sy (dataF l) mem o.imps x.2 (o.pats.drop x.1)) (fun x => o.pats.length - x.1) (0, code) ⟨rfl, rfl, rfl, rfl, rfl, rfl, rfl, rfl, rfl, rfl, rfl, trivial⟩ rfl ⟨Nat.zero_le _, hcn, hgc, rfl⟩ ?_
  rintro ⟨i, code2⟩ ⟨hi, hcn2, hgc2, hPk⟩ K2 hK2
  dsimp only at hi hcn2 hgc2 hPk ⊢
  by_cases hil : i < o.pats.length
  ·obtain ⟨p, hp⟩ := some_at hil
   have hpm := List.mem_of_getElem? hp
   have hall2 : ((paC o.pats).drop ((i : Int).toNat * 3)).take 3 = [.int .i64 p.pl, .int .i64 p.kind, .int .i64 p.n] := paC_all hp _ (by omega)
   have hpln := paC_len o.pats
   have hdp : o.pats.drop i = p :: o.pats.drop (i + 1) := by
    obtain ⟨hi', hb⟩ := List.getElem?_eq_some_iff.1 hp
    rw [List.drop_eq_getElem_cons hi', hb]
   rw [hdp] at hPk
   have hgp1 : goodP o.code.length o.imps.length p = true := by
    have := hgp.2
    rw [List.any_eq_false] at this
    have := this p hpm
    simpa using this
   refine rr ?_
   intro b10 _
   have hbk : (baseK l l.length)[k]? = some (atF l k, dataF (l.take k)) := by simp [baseK, hlt]
   have hbl : (baseK l l.length).length = l.length := by simp [baseK]
   have hbc := baC_len (baseK l l.length)
   have hall3 : ((baC (baseK l l.length)).drop ((k : Int).toNat * 2)).take 2 = [.int .i64 (atF l k : Int), .int .i64 (dataF (l.take k))] := by
    rw [show (k : Int).toNat * 2 = k * 2 by omega]
    exact flat_get (cells := baV) (sz := 2) (fun _ => rfl) hbk
   refine rr ?_
   have pc := patchC j g mem (dataF l) ra ba rc l.length bc code2 sy o (atF l k, dataF (l.take k)) p hoe hgp1 (by rw [hcn2]; exact atF_in he) (by omega) ⟨by omega, by omega⟩ ⟨by omega, by omega⟩ ⟨(dataF_le (fun o ho => hdata o (List.mem_of_mem_take ho))).1, Int.le_trans (hl7 k) (by omega)⟩ hgc2
   rw [hcn2] at pc
   refine dx [0, 1, 2, 3, 4, 5, 6, 7, 8, 9, 10, 11] [1, 5, 8, 9] [4] ?_
   refine rr ?_
   refine cld (pc) (hl := lend_prov rfl ((seeO_prov hmem (by simp [obS])).one (prov_mem (nthC_mem (i := 6) rfl))) trivial) ?_
   intro x hx
   try simp only [Sx.ap1, Sx.ap2, Sx.ap3]
   generalize hpf : patchF code2 (atF l k, dataF (l.take k)) sy (dataF l) mem o.imps p = pf at hPk
   have hpl3 : pf.2.length = atF l l.length := by rw [← hpf, patchF_len, hcn2]
   by_cases hz0 : pf.1 = 0
   ·skip
    refine rr ?_
    refine ro hK2 (i + 1, pf.2) ⟨by omega, hpl3, by rw [← hpf]; exact patchF_good hgc2, ?_⟩
    rw [hPk, patsF_cons, hpf, if_pos hz0]
   ·have hR2 : R = pf := by
     rw [hRk]
     rw [objsF_cons]
     dsimp only
     rw [hPk, patsF_cons, hpf, if_neg hz0, if_neg hz0]
    rw [hR2, if_neg hz0]
    refine rr ?_
    refine w_turn (fun w hw => hw.row_nil 105 5) ?_
    exact en (none, 0) trivial
  ·obtain rfl : i = o.pats.length := by omega
   rw [List.drop_length] at hPk
   refine rr ?_
   refine ro hK1 (k + 1, code2) ⟨by omega, hcn2, hgc2, ?_⟩
   rw [hRk, objsF_cons]
   dsimp only
   rw [hPk, patsF_nil, if_pos rfl]
 ·obtain rfl : k = l.length := by omega
  rw [List.drop_of_length_le (by omega)] at hRk
  rw [objsF_nil] at hRk
  subst hRk
  rw [if_pos rfl]
  dsimp only
  rw [hcn]
  refine rr ?_
  exact en (ra, rc) trivial
end Go.Proofs.YtkolmklfgbimoaaGreatDoor
namespace Go.Proofs.YtkolmklfgbimoaaGreatDoor.Cm
open Go Go.Sx Go.Sx.Chunk
set_option maxRecDepth 100000
def obOf (o : Ob6) (x : Ax) : Ob := ⟨o.name, x.ca, x.cc, o.code, o.data, x.ea, x.ec, o.exps, x.ia, x.ic, o.imps, x.pa, x.pc, o.pats⟩
def ax0 : Ax := ⟨none, 0, none, 0, none, 0, none, 0⟩
def link1 (o : Ob6) (mem : Int) : List In × Int × Int := linkF [obOf o ax0] mem
theorem linkF_obOf (o : Ob6) (x : Ax) (mem : Int) : linkF [obOf o x] mem = link1 o mem := rfl
def bt (s : String) : List UInt8 := s.toUTF8.data.toList
end Go.Proofs.YtkolmklfgbimoaaGreatDoor.Cm
namespace Go.Proofs.YtkolmklfgbimoaaGreatDoor.Cm
open Go
set_option maxRecDepth 100000
theorem comp_ok (s : ByteArray) (hs : s.size ≤ 1000000) (x : Ax) : OkOb (obOf (compO (Sc.txt s)) x) := by
 have hlen := Sc.scanD_len _ 0 (Sc.txt s) (Nat.le_refl _)
 have hok := Sc.scanD_ok _ 0 (Sc.txt s) (Nat.le_refl _)
 rw [Sc.txt_len] at hlen
 have hob : OkOb (obOf ob0 x) := { name := (by decide : (0 : Nat) ≤ maxLen), code := (by decide : (0 : Nat) ≤ 3518437208780), exps := (by decide : (0 : Nat) ≤ 5864062014634), imps := (by decide : (0 : Nat) ≤ 8796093021952), pats := (by decide : (0 : Nat) ≤ 5864062014634), ens := fun y hy => (by cases hy), ins := fun y hy => (by cases hy) }
 have hcl := comp_len (Sc.txt s)
 unfold compO compF at hcl ⊢
 rw [Sc.txt_len] at hcl ⊢
 generalize Sc.scanD 0 (Sc.txt s) = r at *
 obtain ⟨l, pl, e⟩ := r
 dsimp only at *
 split
 ·exact hob
 ·rename_i he
  rw [if_neg he] at hcl
  have hg0 : GD (cs0 l (s.size : Int)) := ⟨Nat.zero_le _, by simp [cs0], fun t ht => ⟨(hok t ht).num.1, (hok t ht).num.2⟩, by simp [cs0]⟩
  have hw0 : wt (cs0 l (s.size : Int)) ≤ 100000000 := by simp [wt, cs0]; omega
  have hwP := dx_program (l.length + 1) _ hg0
  have hnb := (nx_program (l.length + 1) (cs0 l (s.size : Int))).g 16 ⟨(by show ByteArray.empty.size ≤ 16; decide), (fun y hy => by cases hy), (fun y hy => by cases hy), (fun t ht hk => ((hok t ht).len hk).2)⟩
  generalize mProgram (l.length + 1) (cs0 l (s.size : Int)) = sP at *
  have hkey : ∀ q : CS, Nb 16 q → wt q ≤ 200000000 → OkOb (obOf ⟨q.name, q.code, q.data, q.exps, q.imps, q.pats⟩ x) := fun q hn hw => by
   unfold wt at hw
   have hm : 16 ≤ maxLen := by decide
   exact { name := Nat.le_trans hn.na hm, code := (by show q.code.length ≤ _; omega), exps := (by show q.exps.length ≤ _; omega), imps := (by show q.imps.length ≤ _; omega), pats := (by show q.pats.length ≤ _; omega), ens := fun y hy => Nat.le_trans (hn.xp y hy) hm, ins := fun y hy => Nat.le_trans (hn.im y hy) hm }
  split
  ·split
   ·exact hob
   ·exact hkey _ ((nx_stop 4 _ sP).g 16 hnb) (by have := (ex_stop 4 (s.size : Int) sP).w; omega)
  ·split
   ·exact hob
   ·exact hkey _ hnb (by omega)
end Go.Proofs.YtkolmklfgbimoaaGreatDoor.Cm
namespace Go.Proofs.YtkolmklfgbimoaaGreatDoor
open Go
set_option maxRecDepth 100000
def w32 (n : Int) : Int := IntKind.i32.wrap n
structure MS where
 mk ::
 (regs mem : List Int) (pc : Int) (inp out : List Int)
def rgQ (m : MS) (n : Int) : Int := m.regs.getD n.toNat 0
def setQ (n v : Int) (m : MS) : MS := if n = 0 then m else { m with regs := m.regs.set n.toNat (w32 v) }
def truQ (b : Bool) : Int := if b then 1 else 0
def andQ (a b : Int) : Int := IntKind.i64.wrap ((BitVec.ofInt 64 a &&& BitVec.ofInt 64 b).toNat : Int)
def orQ (a b : Int) : Int := IntKind.i64.wrap ((BitVec.ofInt 64 a ||| BitVec.ofInt 64 b).toNat : Int)
def reckQ (i : In) (b c : Int) : Option Int :=
 if i.op = 1 then some (b + c) else if i.op = 2 then some (b - c) else if i.op = 3 then some (b * c)
 else if i.op = 6 then some (andQ b c) else if i.op = 7 then some (orQ b c)
 else if i.op = 8 then some (truQ (decide (b < c))) else if i.op = 9 then some (truQ (decide (b = c)))
 else if i.op = 10 then some (b + i.imm) else if i.op = 11 then some (IntKind.i64.wrap (i.imm * 65536)) else none
def reckonQ (i : In) (b c : Int) : Int × Int × Bool :=
 match reckQ i (w32 b) (w32 c) with
 | some v => (w32 v, 0, true)
 | none => if i.op = 4 ∨ i.op = 5 then (if w32 c = 0 then (0, 4, true) else if i.op = 5 then ((w32 b).tmod (w32 c), 0, true) else (w32 ((w32 b).tdiv (w32 c)), 0, true)) else (0, 0, false)
def loadQ (m : MS) (a : Int) : Option Int := if a < 0 then none else m.mem[a.toNat]?
def sysQ (n : Int) (m : MS) : Int × MS :=
 if n = 0 then (1, m)
 else if n = 1 then (match m.inp with
  | [] => (6, m)
  | v :: r => (0, { setQ 4 v m with inp := r }))
 else if n = 2 then (if 10000 ≤ m.out.length then (9, m) else (0, { m with out := m.out ++ [rgQ m 4] }))
 else (0, m)
def actQ (i : In) (m : MS) : Int × MS :=
 if i.op = 12 then (match loadQ m (w32 (rgQ m i.b + i.imm)) with
  | none => (3, m)
  | some v => (0, setQ i.a v m))
 else if i.op = 13 then (if w32 (rgQ m i.b + i.imm) < 0 ∨ (m.mem.length : Int) ≤ w32 (rgQ m i.b + i.imm) then (3, m) else (0, { m with mem := m.mem.set (w32 (rgQ m i.b + i.imm)).toNat (w32 (rgQ m i.a)) }))
 else if i.op = 14 then (if rgQ m i.a < 0 ∨ i.imm ≤ rgQ m i.a then (if i.b = 0 then 5 else i.b, m) else (0, m))
 else if i.op = 20 then sysQ i.imm m
 else (0, m)
def nextQ (i : In) (m : MS) : MS :=
 if i.op = 15 ∨ i.op = 16 then (if (decide (rgQ m i.a = rgQ m i.b)) = decide (i.op = 15) then { m with pc := m.pc + 1 + i.imm } else { m with pc := m.pc + 1 })
 else if i.op = 18 then { setQ 31 (m.pc + 1) m with pc := i.imm }
 else if i.op = 17 then { m with pc := i.imm }
 else if i.op = 19 then { m with pc := rgQ m i.a }
 else { m with pc := m.pc + 1 }
def stepQ (code : List In) (m : MS) : Int × MS :=
 if m.pc < 0 then (2, m) else match code[m.pc.toNat]? with
 | none => (2, m)
 | some i => if goodI i = false then (8, m) else
  let r := actQ i m
  if r.1 ≠ 0 then r else
  let v := reckonQ i (rgQ r.2 i.b) (rgQ r.2 i.c)
  if v.2.1 ≠ 0 then (v.2.1, r.2) else
  (0, nextQ i (if v.2.2 then setQ i.a v.1 r.2 else r.2))
def runQ (code : List In) : Nat → MS → Int × Int × MS
 | 0, m => (0, 0, m)
 | f + 1, m =>
  let r := stepQ code m
  if r.1 = 0 then let q := runQ code f r.2
   (q.1, q.2.1 + 1, q.2.2) else (r.1, 1, r.2)
def ms0 (mem : Nat) (inp : List Int) : MS := ⟨List.replicate 32 0, List.replicate mem 0, 0, inp, []⟩
def usedQ (l : List Int) : List Int := (l.reverse.dropWhile (fun x => decide (x = 0))).reverse
def seqQ (code : List In) (mem : Int) (inp : List Int) (fuel : Int) : Int × Int × List Int × List Int :=
 if mem < 0 ∨ 32000 < mem ∨ 4096 < code.length then (0, 0, [], []) else
 let r := runQ code fuel.toNat (ms0 mem.toNat inp)
 (r.1, r.2.1, r.2.2.out, usedQ r.2.2.mem)
end Go.Proofs.YtkolmklfgbimoaaGreatDoor
namespace Go.Proofs.YtkolmklfgbimoaaGreatDoor
open Go Go.Sx Go.Sx.Chunk
set_option maxRecDepth 100000
theorem w32_in (n : Int) : -2147483648 ≤ w32 n ∧ w32 n ≤ 2147483647 := by
 unfold w32 IntKind.wrap
 simp [IntKind.bits, IntKind.signed]
 (try split) <;> omega
theorem w32_id {n : Int} (h : -2147483648 ≤ n ∧ n ≤ 2147483647) : w32 n = n := by
 unfold w32 IntKind.wrap
 simp [IntKind.bits, IntKind.signed]
 (try split) <;> omega
theorem i64_id {n : Int} (h : -9223372036854775808 ≤ n ∧ n ≤ 9223372036854775807) : IntKind.i64.wrap n = n := by
 unfold IntKind.wrap
 simp [IntKind.bits, IntKind.signed]
 (try split) <;> omega
theorem i64_in (n : Int) : -9223372036854775808 ≤ IntKind.i64.wrap n ∧ IntKind.i64.wrap n ≤ 9223372036854775807 := by
 unfold IntKind.wrap
 simp [IntKind.bits, IntKind.signed]
 (try split) <;> omega
theorem wrapC (n : Int) : FnC (α := Unit) Tryz.prog 157 [.int .i64 n] [] [] (fun _ => .int .i64 (w32 n)) (fun _ => []) (fun _ => True) := by
 have hb := w32_in n
 unfold w32 at *
 refine fn_intro Tryz.func157 Tryz.ntmps157 rfl rfl rfl (fun w0 => ?_)
 try simp only [Sx.ap1, Sx.ap2, Sx.ap3]
 refine rr ?_
 exact en () trivial
theorem addC (a b : Int) (h : -9223372036854775808 ≤ a + b ∧ a + b ≤ 9223372036854775807) : FnC (α := Unit) Tryz.prog 154 [.int .i64 a, .int .i64 b] [] [] (fun _ => .int .i64 (w32 (a + b))) (fun _ => []) (fun _ => True) := by
 refine fn_intro Tryz.func154 Tryz.ntmps154 rfl rfl rfl (fun w0 => ?_)
 try simp only [Sx.ap1, Sx.ap2, Sx.ap3]
 refine rr ?_
 refine cl (wrapC (a + b)) ?_
 intro _ _
 try simp only [Sx.ap1, Sx.ap2, Sx.ap3]
 refine rr ?_
 exact en () trivial
theorem tdiv_in {a b : Int} (h : -2147483648 ≤ a ∧ a ≤ 2147483647) : -2147483648 ≤ a.tdiv b ∧ a.tdiv b ≤ 2147483648 := by
 have h1 := Int.natAbs_tdiv_le_natAbs a b
 omega
theorem divC (a b : Int) : FnC (α := Unit) Tryz.prog 159 [.int .i64 a, .int .i64 b] [] [] (fun _ => if w32 b = 0 then .tuple #[.int .i64 0, .int .i64 0, .bool false] else .tuple #[.int .i64 (w32 ((w32 a).tdiv (w32 b))), .int .i64 ((w32 a).tmod (w32 b)), .bool true]) (fun _ => []) (fun _ => True) := by
 have ha := w32_in a
 have hq := i64_id (n := (w32 a).tdiv (w32 b)) (by have := tdiv_in (b := w32 b) ha; omega)
 have h1 := wrapC a
 have h2 := wrapC b
 generalize w32 a = x at *
 generalize w32 b = y at *
 by_cases h0 : y = 0
 ·simp only [if_pos h0]
  refine fn_intro Tryz.func159 Tryz.ntmps159 rfl rfl rfl (fun w0 => ?_)
  try simp only [Sx.ap1, Sx.ap2, Sx.ap3]
  refine rr ?_
  refine cl (h1) ?_
  intro _ _
  try simp only [Sx.ap1, Sx.ap2, Sx.ap3]
  refine rr ?_
  refine cl (h2) ?_
  intro _ _
  try simp only [Sx.ap1, Sx.ap2, Sx.ap3]
  refine rr ?_
  exact en () trivial
 ·simp only [if_neg h0]
  have h3 := wrapC (x.tdiv y)
  rw [← hq] at h3
  refine fn_intro Tryz.func159 Tryz.ntmps159 rfl rfl rfl (fun w0 => ?_)
  try simp only [Sx.ap1, Sx.ap2, Sx.ap3]
  refine rr ?_
  refine cl (h1) ?_
  intro _ _
  try simp only [Sx.ap1, Sx.ap2, Sx.ap3]
  refine rr ?_
  refine cl (h2) ?_
  intro _ _
  try simp only [Sx.ap1, Sx.ap2, Sx.ap3]
  refine rr ?_
  refine dx [0, 1, 2, 4, 5, 6, 3, 7, 8, 9] [] [] ?_
  refine rr ?_
  refine cld (h3) ?_
  intro _ _
  try simp only [Sx.ap1, Sx.ap2, Sx.ap3]
  refine rr ?_
  exact en () trivial (hv := by rw [hq]; rfl)
theorem truthC (b : Bool) : FnC (α := Unit) Tryz.prog 208 [.bool b] [] [] (fun _ => .int .i64 (truQ b)) (fun _ => []) (fun _ => True) := by
 refine fn_intro Tryz.func208 Tryz.ntmps208 rfl rfl rfl (fun w0 => ?_)
 try simp only [Sx.ap1, Sx.ap2, Sx.ap3]
 cases b
 ·skip
  refine rr ?_
  exact en () trivial
 ·skip
  refine rr ?_
  exact en () trivial
def reckV (r : Option Int) : Value := match r with
 | some v => .tuple #[.int .i64 v, .bool true]
 | none => .tuple #[.int .i64 0, .bool false]
theorem mul_in {b c : Int} (hb : -2147483648 ≤ b ∧ b ≤ 2147483647) (hc : -2147483648 ≤ c ∧ c ≤ 2147483647) : -9223372036854775808 ≤ b * c ∧ b * c ≤ 9223372036854775807 := by
 have h : (b * c).natAbs ≤ 4611686018427387904 := by
  rw [Int.natAbs_mul]
  have h1 : b.natAbs ≤ 2147483648 := by omega
  have h2 : c.natAbs ≤ 2147483648 := by omega
  exact Nat.mul_le_mul h1 h2
 omega
set_option maxHeartbeats 8000000 in
theorem reckC (i : In) (b c : Int) (hb : -2147483648 ≤ b ∧ b ≤ 2147483647) (hc : -2147483648 ≤ c ∧ c ≤ 2147483647) (hi : -2147483648 ≤ i.imm ∧ i.imm ≤ 2147483647) : FnC (α := Unit) Tryz.prog 158 [inG i, .int .i64 b, .int .i64 c] [] [] (fun _ => reckV (reckQ i b c)) (fun _ => []) (fun _ => True) := by
 have hm := i64_id (mul_in hb hc)
 have ht1 := truthC (decide (b < c))
 have ht2 := truthC (decide (b = c))
 have hs : IntKind.i64.wrap (i.imm * 2 ^ (min (16 : Int).toNat IntKind.i64.bits)) = IntKind.i64.wrap (i.imm * 65536) := rfl
 unfold inG reckQ
 by_cases h1 : i.op = 1
 ·rw [if_pos h1]
  unfold reckV
  refine fn_intro Tryz.func158 Tryz.ntmps158 rfl rfl rfl (fun w0 => ?_)
  try simp only [Sx.ap1, Sx.ap2, Sx.ap3]
  refine rr ?_
  intro b3 _
  refine rr ?_
  exact en () trivial
 rw [if_neg h1]
 by_cases h2 : i.op = 2
 ·rw [if_pos h2]
  unfold reckV
  refine fn_intro Tryz.func158 Tryz.ntmps158 rfl rfl rfl (fun w0 => ?_)
  try simp only [Sx.ap1, Sx.ap2, Sx.ap3]
  refine rr ?_
  intro b3 _
  refine rr ?_
  exact en () trivial
 rw [if_neg h2]
 by_cases h3 : i.op = 3
 ·rw [if_pos h3]
  unfold reckV
  refine fn_intro Tryz.func158 Tryz.ntmps158 rfl rfl rfl (fun w0 => ?_)
  try simp only [Sx.ap1, Sx.ap2, Sx.ap3]
  refine rr ?_
  intro b3 _
  refine rr ?_
  exact en () trivial (hv := by rw [hm]; rfl)
 rw [if_neg h3]
 by_cases h6 : i.op = 6
 ·rw [if_pos h6]
  unfold reckV
  refine fn_intro Tryz.func158 Tryz.ntmps158 rfl rfl rfl (fun w0 => ?_)
  try simp only [Sx.ap1, Sx.ap2, Sx.ap3]
  refine rr ?_
  intro b3 _
  refine rr ?_
  exact en () trivial
 rw [if_neg h6]
 by_cases h7 : i.op = 7
 ·rw [if_pos h7]
  unfold reckV
  refine fn_intro Tryz.func158 Tryz.ntmps158 rfl rfl rfl (fun w0 => ?_)
  try simp only [Sx.ap1, Sx.ap2, Sx.ap3]
  refine rr ?_
  intro b3 _
  refine rr ?_
  exact en () trivial
 rw [if_neg h7]
 by_cases h8 : i.op = 8
 ·rw [if_pos h8]
  unfold reckV
  refine fn_intro Tryz.func158 Tryz.ntmps158 rfl rfl rfl (fun w0 => ?_)
  try simp only [Sx.ap1, Sx.ap2, Sx.ap3]
  refine rr ?_
  intro b3 _
  refine rr ?_
  refine cl (ht1) ?_
  intro _ _
  try simp only [Sx.ap1, Sx.ap2, Sx.ap3]
  refine rr ?_
  exact en () trivial
 rw [if_neg h8]
 by_cases h9 : i.op = 9
 ·rw [if_pos h9]
  unfold reckV
  refine fn_intro Tryz.func158 Tryz.ntmps158 rfl rfl rfl (fun w0 => ?_)
  try simp only [Sx.ap1, Sx.ap2, Sx.ap3]
  refine rr ?_
  intro b3 _
  refine rr ?_
  refine cl (ht2) ?_
  intro _ _
  try simp only [Sx.ap1, Sx.ap2, Sx.ap3]
  refine rr ?_
  exact en () trivial
 rw [if_neg h9]
 by_cases h10 : i.op = 10
 ·rw [if_pos h10]
  unfold reckV
  refine fn_intro Tryz.func158 Tryz.ntmps158 rfl rfl rfl (fun w0 => ?_)
  try simp only [Sx.ap1, Sx.ap2, Sx.ap3]
  refine rr ?_
  intro b3 _
  refine rr ?_
  exact en () trivial
 rw [if_neg h10]
 by_cases h11 : i.op = 11
 ·rw [if_pos h11]
  unfold reckV
  refine fn_intro Tryz.func158 Tryz.ntmps158 rfl rfl rfl (fun w0 => ?_)
  try simp only [Sx.ap1, Sx.ap2, Sx.ap3]
  refine rr ?_
  intro b3 _
  refine rr ?_
  exact en () trivial
 rw [if_neg h11]
 unfold reckV
 refine fn_intro Tryz.func158 Tryz.ntmps158 rfl rfl rfl (fun w0 => ?_)
 try simp only [Sx.ap1, Sx.ap2, Sx.ap3]
 refine rr ?_
 intro b3 _
 refine rr ?_
 exact en () trivial
def reckonV (r : Int × Int × Bool) : Value := .tuple #[.int .i64 r.1, .int .i64 r.2.1, .bool r.2.2]
set_option maxHeartbeats 8000000 in
theorem reckonC (i : In) (b c : Int) (hg : goodI i = true) (hi : -2147483648 ≤ i.imm ∧ i.imm ≤ 2147483647) : FnC (α := Unit) Tryz.prog 105 [inG i, .int .i64 b, .int .i64 c] [] [] (fun _ => reckonV (reckonQ i b c)) (fun _ => []) (fun _ => True) := by
 have h1 := wrapC b
 have h2 := wrapC c
 have h3 := reckC i (w32 b) (w32 c) (w32_in b) (w32_in c) hi
 have h4 := rightIC i
 rw [hg] at h4
 unfold reckonQ
 cases hr : reckQ i (w32 b) (w32 c) with
 | some v =>
  rw [hr] at h3
  have h5 := wrapC v
  unfold reckV at h3
  unfold inG reckonV at *
  dsimp only at *
  refine fn_intro Tryz.func105 Tryz.ntmps105 rfl rfl rfl (fun w0 => ?_)
  try simp only [Sx.ap1, Sx.ap2, Sx.ap3]
  refine rr ?_
  intro b3 _
  refine rr ?_
  refine cl (h1) ?_
  intro _ _
  try simp only [Sx.ap1, Sx.ap2, Sx.ap3]
  refine rr ?_
  refine cl (h2) ?_
  intro _ _
  try simp only [Sx.ap1, Sx.ap2, Sx.ap3]
  refine rr ?_
  refine cl (h3) ?_
  intro _ _
  try simp only [Sx.ap1, Sx.ap2, Sx.ap3]
  refine rr ?_
  refine cl (h4) ?_
  intro _ _
  try simp only [Sx.ap1, Sx.ap2, Sx.ap3]
  refine rr ?_
  refine cl (h5) ?_
  intro _ _
  try simp only [Sx.ap1, Sx.ap2, Sx.ap3]
  refine rr ?_
  exact en () trivial
 | none =>
  rw [hr] at h3
  have h5 := divC (w32 b) (w32 c)
  rw [w32_id (w32_in b), w32_id (w32_in c)] at h5
  unfold reckV at h3
  unfold inG reckonV at *
  dsimp only at *
  by_cases hd : i.op = 4 ∨ i.op = 5
  ·rw [if_pos hd]
   by_cases h0 : w32 c = 0
   ·rw [if_pos h0]
    simp only [if_pos h0] at h5
    have hcase : (i.op = 4) ∨ (i.op = 5 ∧ ¬ i.op = 4) := by omega
    rcases hcase with h40 | ⟨h50, h40⟩
    all_goals
     refine fn_intro Tryz.func105 Tryz.ntmps105 rfl rfl rfl (fun w0 => ?_)
     try simp only [Sx.ap1, Sx.ap2, Sx.ap3]
     refine rr ?_
     intro b3 _
     refine rr ?_
     refine cl (h1) ?_
     intro _ _
     try simp only [Sx.ap1, Sx.ap2, Sx.ap3]
     refine rr ?_
     refine cl (h2) ?_
     intro _ _
     try simp only [Sx.ap1, Sx.ap2, Sx.ap3]
     refine rr ?_
     refine cl (h3) ?_
     intro _ _
     try simp only [Sx.ap1, Sx.ap2, Sx.ap3]
     refine rr ?_
     refine cl (h4) ?_
     intro _ _
     try simp only [Sx.ap1, Sx.ap2, Sx.ap3]
     refine rr ?_
     refine cl (h5) ?_
     intro _ _
     try simp only [Sx.ap1, Sx.ap2, Sx.ap3]
     refine rr ?_
     exact en () trivial
   ·rw [if_neg h0]
    simp only [if_neg h0] at h5
    have hcase : (i.op = 4 ∧ ¬ i.op = 5) ∨ (i.op = 5 ∧ ¬ i.op = 4) := by omega
    rcases hcase with ⟨h40, h50⟩ | ⟨h50, h40⟩
    ·rw [if_neg h50]
     refine fn_intro Tryz.func105 Tryz.ntmps105 rfl rfl rfl (fun w0 => ?_)
     try simp only [Sx.ap1, Sx.ap2, Sx.ap3]
     refine rr ?_
     intro b3 _
     refine rr ?_
     refine cl (h1) ?_
     intro _ _
     try simp only [Sx.ap1, Sx.ap2, Sx.ap3]
     refine rr ?_
     refine cl (h2) ?_
     intro _ _
     try simp only [Sx.ap1, Sx.ap2, Sx.ap3]
     refine rr ?_
     refine cl (h3) ?_
     intro _ _
     try simp only [Sx.ap1, Sx.ap2, Sx.ap3]
     refine rr ?_
     refine cl (h4) ?_
     intro _ _
     try simp only [Sx.ap1, Sx.ap2, Sx.ap3]
     refine rr ?_
     refine cl (h5) ?_
     intro _ _
     try simp only [Sx.ap1, Sx.ap2, Sx.ap3]
     refine rr ?_
     exact en () trivial
    ·rw [if_pos h50]
     refine fn_intro Tryz.func105 Tryz.ntmps105 rfl rfl rfl (fun w0 => ?_)
     try simp only [Sx.ap1, Sx.ap2, Sx.ap3]
     refine rr ?_
     intro b3 _
     refine rr ?_
     refine cl (h1) ?_
     intro _ _
     try simp only [Sx.ap1, Sx.ap2, Sx.ap3]
     refine rr ?_
     refine cl (h2) ?_
     intro _ _
     try simp only [Sx.ap1, Sx.ap2, Sx.ap3]
     refine rr ?_
     refine cl (h3) ?_
     intro _ _
     try simp only [Sx.ap1, Sx.ap2, Sx.ap3]
     refine rr ?_
     refine cl (h4) ?_
     intro _ _
     try simp only [Sx.ap1, Sx.ap2, Sx.ap3]
     refine rr ?_
     refine cl (h5) ?_
     intro _ _
     try simp only [Sx.ap1, Sx.ap2, Sx.ap3]
     refine rr ?_
     exact en () trivial
  ·rw [if_neg hd]
   have h40 : ¬ i.op = 4 := fun h => hd (.inl h)
   have h50 : ¬ i.op = 5 := fun h => hd (.inr h)
   refine fn_intro Tryz.func105 Tryz.ntmps105 rfl rfl rfl (fun w0 => ?_)
   try simp only [Sx.ap1, Sx.ap2, Sx.ap3]
   refine rr ?_
   intro b3 _
   refine rr ?_
   refine cl (h1) ?_
   intro _ _
   try simp only [Sx.ap1, Sx.ap2, Sx.ap3]
   refine rr ?_
   refine cl (h2) ?_
   intro _ _
   try simp only [Sx.ap1, Sx.ap2, Sx.ap3]
   refine rr ?_
   refine cl (h3) ?_
   intro _ _
   try simp only [Sx.ap1, Sx.ap2, Sx.ap3]
   refine rr ?_
   refine cl (h4) ?_
   intro _ _
   try simp only [Sx.ap1, Sx.ap2, Sx.ap3]
   refine rr ?_
   exact en () trivial
end Go.Proofs.YtkolmklfgbimoaaGreatDoor

/- Sets of names (package bag). -/
import Derived.Test.YtgmegfmabkkaoaaRr
namespace Go.Proofs.Ytgmegfmabkkaoaa
open Go Go.Sx Go.Sx.Chunk
set_option linter.unusedVariables false
set_option linter.unusedSimpArgs false

def strC (l : List ByteArray) : List Value := l.map Value.string
theorem strC_len (l : List ByteArray) : (strC l).length = l.length := by simp [strC]
theorem strC_at {l : List ByteArray} {i : Nat} {s : ByteArray} (h : l[i]? = some s) : (strC l)[i]? = some (.string s) := by simp [strC, h]
def inL (v : ByteArray) (l : List ByteArray) : Bool := l.any fun s => decide (s = v)
/-- The map of a set. -/
def bMap (l : List ByteArray) : List (ByteArray × Value) := l.map fun s => (s, .bool true)
theorem atK_bMap (v : ByteArray) : ∀ l, atK (bMap l) v = if inL v l then some (.bool true) else none
  | [] => rfl
  | a :: l => by
    have ih := atK_bMap v l
    simp only [bMap, List.map_cons, atK] at ih ⊢
    by_cases h : a = v
    · subst h; simp [inL]
    · have h' : ¬ v = a := fun e => h e.symm
      simp only [inL, List.any_cons, h, decide_false, Bool.false_or] at ih ⊢
      first | (rw [if_neg h]; exact ih) | (rw [if_neg h']; exact ih)
theorem putK_bMap (v : ByteArray) : ∀ l, inL v l = false → putK (bMap l) v (.bool true) = bMap (l ++ [v])
  | [], _ => rfl
  | a :: l, h => by
    simp only [inL, List.any_cons, Bool.or_eq_false_iff, decide_eq_false_iff_not] at h
    have ih := putK_bMap v l h.2
    have h' : ¬ v = a := fun e => h.1 e.symm
    simp only [bMap, List.map_cons, List.cons_append, putK] at ih ⊢
    first | rw [if_neg h.1, ih] | rw [if_neg h', ih]
def mapO (m : Option Nat) (l : List ByteArray) : Chunk := match m with
  | none => genL []
  | some g => mapC Value.string g (bMap l)
def setH (b : Nat) (m : Option Nat) (oa : Option Addr) (oc : Nat) (l : List ByteArray) : List Chunk := [blk b [.map m, .slice oa l.length oc] 98, row oa oc 9 1 l.length (strC l), mapO m l]
def setOk (m : Option Nat) (l : List ByteArray) : Prop := m = none → l = []
theorem setW {b : Nat} {m : Option Nat} {oa : Option Addr} {oc : Nat} {l : List ByteArray} : allW (setH b m oa oc l) = true := by cases m <;> rfl
theorem setHasC (b : Nat) (m : Option Nat) (oa : Option Addr) (oc : Nat) (l : List ByteArray) (v : ByteArray) (hm : setOk m l) :
    FnC (α := Unit) Try.prog 57 [.pointer (some ⟨b, 0, none⟩), .string v] (setH b m oa oc l) [] (fun _ => .bool (inL v l)) (fun _ => setH b m oa oc l) (fun _ => True) := by
  refine fn_intro Try.func57 Try.ntmps57 rfl rfl rfl (fun w0 => ?_)
  try simp only [List.cons_append, List.nil_append, List.append_nil]
  unfold setH
  cases m with
  | none =>
    obtain rfl := hm rfl
    refine rr ?_
    exact we () [0, 0, 0] trivial
  | some g =>
    simp only [mapO]
    refine rr ?_
    rw [atK_bMap]
    refine we () [0, 0, 0] trivial (hv := ?_)
    cases h : inL v l <;> rfl
set_option maxHeartbeats 4000000 in
theorem setAddC (b : Nat) (m : Option Nat) (oa : Option Addr) (oc : Nat) (l : List ByteArray) (v : ByteArray) (hm : setOk m l) (hl : l.length ≤ 8796093021952) :
    FnC Try.prog 52 [.pointer (some ⟨b, 0, none⟩), .string v] (setH b m oa oc l) [] (fun _ : Option Nat × Option Addr × Nat => .bool (!inL v l)) (fun x => setH b x.1 x.2.1 x.2.2 (if inL v l then l else l ++ [v])) (fun x => setOk x.1 (if inL v l then l else l ++ [v])) := by
  refine fn_intro Try.func52 Try.ntmps52 rfl rfl rfl (fun w0 => ?_)
  try simp only [List.cons_append, List.nil_append, List.append_nil]
  refine rr ?_
  refine ca [0, 0, 0] (setHasC b m oa oc l v hm) (ho := fun _ => setW) ?_
  intro x hx
  try simp only [List.cons_append, List.nil_append, List.append_nil]
  cases h : inL v l with
  | true =>
    refine rr ?_
    exact we (m, oa, oc) [0, 0, 0] (by rw [if_pos rfl]; exact hm)
  | false =>
    unfold setH
    cases m with
    | none =>
      obtain rfl := hm rfl
      refine rr ?_
      intro g _
      show Wd _ _ (mapC Value.string g [] :: _) _
      refine rr ?_
      intro b1 _
      refine rr ?_
      rintro ⟨a1, c1⟩ ⟨hc1, _⟩
      refine rr ?_
      exact we (some g, a1, c1) [0, 0, 0] (fun h => by cases h)
    | some g =>
      simp only [mapO]
      refine rr ?_
      intro b1 _
      refine rr ?_
      rintro ⟨a1, c1⟩ ⟨hc1, _⟩
      refine rr ?_
      have hlen : l.length + 1 = (l ++ [v]).length := by simp
      have hstr : strC l ++ [Value.string v] = strC (l ++ [v]) := by simp [strC]
      rw [putK_bMap v l h, hlen, hstr]
      exact we (some g, a1, c1) [0, 0, 0] (fun h => by cases h)
/-- Each once. -/
def onceL : List ByteArray → Bool
  | [] => true
  | a :: l => !inL a l && onceL l
theorem inL_app (v : ByteArray) (a b : List ByteArray) : inL v (a ++ b) = (inL v a || inL v b) := by simp [inL]
end Go.Proofs.Ytgmegfmabkkaoaa

/- ScopeBack and ScopeDeep: what the walks need in plain words. -/
import Derived.Test.YtdjjlpgphkbehaaSd3
namespace Go.Proofs.Ytdjjlpgphkbehaa
open Go Go.Sx Go.Sx.Chunk
set_option linter.unusedVariables false
set_option linter.unusedSimpArgs false

def strC (l : List ByteArray) : List Value := l.map Value.string
theorem strC_get (l : List ByteArray) (i : Nat) (h : i < l.length) : (strC l)[i]? = some (.string l[i]) := by simp [strC, h]
theorem strC_len (l : List ByteArray) : (strC l).length = l.length := by simp [strC]
/-- So many names are defined, one after the other. -/
def defL (bs : List Nat) : List ByteArray → Int → List (ByteArray × Int) → List (ByteArray × Int)
  | [], _, es => es
  | s :: l, v, es => defL bs l (v + 1) (defE es bs s v)
theorem defL_snoc (bs : List Nat) : ∀ (l : List ByteArray) (v : Int) (es : List (ByteArray × Int)) (s : ByteArray), defL bs (l ++ [s]) v es = defE (defL bs l v es) bs s (v + l.length)
  | [], v, es, s => by simp [defL]
  | a :: l, v, es, s => by
    simp only [List.cons_append, defL]
    rw [defL_snoc bs l]
    congr 1
    simp only [List.length_cons]
    omega
theorem defL_step (bs : List Nat) (l : List ByteArray) (v : Int) (es : List (ByteArray × Int)) (i : Nat) (h : i < l.length) : defL bs (l.take (i + 1)) v es = defE (defL bs (l.take i) v es) bs l[i] (v + i) := by
  rw [List.take_succ_eq_append_getElem h, defL_snoc]
  congr 2
  simp; omega
theorem defE_app (es : List (ByteArray × Int)) (bs : List Nat) (s : ByteArray) (v : Int) : ∃ t, defE es bs s v = es ++ t ∧ t.length ≤ 1 := by
  unfold defE
  split
  · exact ⟨_, rfl, by simp⟩
  · exact ⟨[], by simp, by simp⟩
theorem defL_app (bs : List Nat) : ∀ (l : List ByteArray) (v : Int) (es : List (ByteArray × Int)), ∃ t, defL bs l v es = es ++ t ∧ t.length ≤ l.length
  | [], v, es => ⟨[], by simp [defL], by simp⟩
  | a :: l, v, es => by
    obtain ⟨t, h1, h2⟩ := defE_app es bs a v
    obtain ⟨u, h3, h4⟩ := defL_app bs l (v + 1) (es ++ t)
    refine ⟨t ++ u, ?_, by simp; omega⟩
    simp only [defL, h1, h3, List.append_assoc]
theorem defL_len (bs : List Nat) (l : List ByteArray) (v : Int) (es : List (ByteArray × Int)) : es.length ≤ (defL bs l v es).length ∧ (defL bs l v es).length ≤ es.length + l.length := by
  obtain ⟨t, h1, h2⟩ := defL_app bs l v es
  rw [h1]; simp; omega
/-- Is the name among them? -/
def isIn (name : ByteArray) (l : List ByteArray) : Bool := l.any (fun s => decide (s = name))
theorem isIn_step (name : ByteArray) (l : List ByteArray) (i : Nat) (h : i < l.length) : isIn name (l.take (i + 1)) = (isIn name (l.take i) || decide (l[i] = name)) := by
  unfold isIn
  rw [List.take_succ_eq_append_getElem h, List.any_append, List.any_cons, List.any_nil, Bool.or_false]
end Go.Proofs.Ytdjjlpgphkbehaa

/- ScopeOrder: what the walk needs in plain words. -/
import Derived.Test.YtdjjlpgphkbehaaSd9
namespace Go.Proofs.Ytdjjlpgphkbehaa
open Go Go.Sx Go.Sx.Chunk
set_option linter.unusedVariables false
set_option linter.unusedSimpArgs false

/-- Each entry once, each with its place. -/
def ordE (es : List (ByteArray × Int)) : Prop := (∀ (j : Nat) (e : ByteArray × Int), es[j]? = some e → e.2 = (j : Int)) ∧ (es.map Prod.fst).Nodup
theorem decD0 (i : Nat) : decD [0] i 1 = 1 := by simp [decD]
theorem findG_in (es : List (ByteArray × Int)) (name : ByteArray) : ∀ i, i ≤ es.length → name ∈ (es.take i).map Prod.fst → (findG es [0] name i 1).2.2 = true ∧ (findG es [0] name i 1).2.1 = 1
  | 0, _, h => by simp at h
  | i + 1, hi, h => by
    simp only [findG, decD0]
    have hlt : i < es.length := hi
    have hg : es.getD i (.empty, 0) = es[i] := by simp [hlt]
    rw [hg]
    by_cases he : es[i].1 = name
    · simp [he]
    · rw [if_neg he]
      refine findG_in es name i (by omega) ?_
      rw [List.take_succ_eq_append_getElem hlt, List.map_append, List.mem_append] at h
      rcases h with h | h
      · exact h
      · simp at h; exact absurd h.symm he
theorem findG_at (es : List (ByteArray × Int)) (j : Nat) (hj : j < es.length) : ∀ i, j < i → i ≤ es.length → (∀ m, (hm : m < es.length) → j < m → es[m].1 ≠ es[j].1) → findG es [0] es[j].1 i 1 = (es[j].2, 1, true)
  | 0, h, _, _ => absurd h (Nat.not_lt_zero _)
  | i + 1, h, hi, hm => by
    simp only [findG, decD0]
    have hlt : i < es.length := hi
    have hg : es.getD i (.empty, 0) = es[i] := by simp [hlt]
    rw [hg]
    by_cases hji : j = i
    · subst hji; simp
    · rw [if_neg (hm i hlt (by omega))]
      exact findG_at es j hj i (by omega) (by omega) hm
theorem ord_find {es : List (ByteArray × Int)} (h : ordE es) {j : Nat} {e : ByteArray × Int} (he : es[j]? = some e) : findT es [0] e.1 = ((j : Int), 1, true) := by
  obtain ⟨hj, rfl⟩ := List.getElem?_eq_some_iff.1 he
  have := findG_at es j hj es.length hj (Nat.le_refl _) (fun m hm hlt => by
    have h2 := List.pairwise_iff_getElem.1 (List.nodup_iff_pairwise_ne.1 h.2) j m (by simpa using hj) (by simpa using hm) hlt
    simp only [List.getElem_map] at h2
    exact fun h => h2 h.symm)
  show findG es [0] es[j].1 es.length 1 = _
  rw [this, h.1 j _ he]
theorem ord_nil : ordE [] := ⟨by simp, by simp⟩
theorem ord_def {es : List (ByteArray × Int)} (h : ordE es) {name : ByteArray} (hd : defOk es [0] name = true) : ordE (es ++ [(name, (es.length : Int))]) := by
  constructor
  · intro j e he
    by_cases hj : j < es.length
    · rw [List.getElem?_append_left hj] at he
      exact h.1 j e he
    · rw [List.getElem?_append_right (by omega)] at he
      have : j - es.length = 0 := by
        by_cases hz : j - es.length = 0
        · exact hz
        · rw [List.getElem?_eq_none (by simp; omega)] at he; cases he
      rw [this] at he
      simp at he
      subst he
      show (es.length : Int) = j
      omega
  · rw [List.map_append]
    simp only [List.map_cons, List.map_nil]
    rw [List.nodup_append]
    refine ⟨h.2, by simp, ?_⟩
    intro a ha b hb
    simp at hb
    subst hb
    intro hab
    subst hab
    have := findG_in es a es.length (Nat.le_refl _) (by simpa using ha)
    have hd' := hd
    unfold defOk at hd'
    rw [show ([0] : List Nat).length = 1 from rfl] at hd'
    rw [this.1, this.2] at hd'
    simp at hd'
theorem own0 (es : List (ByteArray × Int)) : ownE es [0] = es := by simp [ownE]
end Go.Proofs.Ytdjjlpgphkbehaa

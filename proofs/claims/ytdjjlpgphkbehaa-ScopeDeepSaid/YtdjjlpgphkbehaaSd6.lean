/- ScopeBack: the plain law. -/
import Derived.Test.YtdjjlpgphkbehaaSd5
namespace Go.Proofs.Ytdjjlpgphkbehaa
open Go Go.Sx Go.Sx.Chunk
set_option linter.unusedVariables false
set_option linter.unusedSimpArgs false

abbrev Ent := ByteArray × Int
def e0 : Ent := (.empty, 0)
/-- The last entry of a name among the first k. -/
def lastI (es : List Ent) (name : ByteArray) : Nat → Option Nat
  | 0 => none
  | k + 1 => if (es.getD k e0).1 = name then some k else lastI es name k
theorem lastI_some {es : List Ent} {name : ByteArray} : ∀ {k i : Nat}, lastI es name k = some i → i < k ∧ (es.getD i e0).1 = name ∧ ∀ j, i < j → j < k → (es.getD j e0).1 ≠ name
  | 0, i, h => by simp [lastI] at h
  | k + 1, i, h => by
    simp only [lastI] at h
    split at h
    · rename_i hk
      cases h
      exact ⟨Nat.lt_succ_self _, hk, fun j h1 h2 => by omega⟩
    · rename_i hk
      obtain ⟨h1, h2, h3⟩ := lastI_some h
      refine ⟨by omega, h2, fun j h4 h5 => ?_⟩
      by_cases hj : j = k
      · rw [hj]; exact hk
      · exact h3 j h4 (by omega)
theorem lastI_none {es : List Ent} {name : ByteArray} : ∀ {k : Nat}, lastI es name k = none → ∀ j, j < k → (es.getD j e0).1 ≠ name
  | 0, h, j, hj => by omega
  | k + 1, h, j, hj => by
    simp only [lastI] at h
    split at h
    · cases h
    · rename_i hk
      by_cases hjk : j = k
      · rw [hjk]; exact hk
      · exact lastI_none h j (by omega)
theorem lastI_intro {es : List Ent} {name : ByteArray} {k i : Nat} (h1 : i < k) (h2 : (es.getD i e0).1 = name) (h3 : ∀ j, i < j → j < k → (es.getD j e0).1 ≠ name) : lastI es name k = some i := by
  cases h : lastI es name k with
  | none => exact absurd h2 (lastI_none h i h1)
  | some i' =>
    obtain ⟨g1, g2, g3⟩ := lastI_some h
    by_cases hlt : i < i'
    · exact absurd g2 (h3 i' hlt g1)
    · by_cases hgt : i' < i
      · exact absurd h2 (g3 i hgt h1)
      · rw [show i' = i by omega]
theorem lastI_none_intro {es : List Ent} {name : ByteArray} {k : Nat} (h : ∀ j, j < k → (es.getD j e0).1 ≠ name) : lastI es name k = none := by
  cases h' : lastI es name k with
  | none => rfl
  | some i => obtain ⟨g1, g2, _⟩ := lastI_some h'; exact absurd g2 (h i g1)

theorem decD_le (bs : List Nat) (i : Nat) : ∀ d, decD bs i d ≤ d
  | 0 => Nat.le_refl _
  | d + 1 => by
    simp only [decD]
    split
    · have := decD_le bs i d; omega
    · omega
theorem decD_idem (bs : List Nat) {i j : Nat} (h : i ≤ j) : ∀ d, decD bs i (decD bs j d) = decD bs i d
  | 0 => rfl
  | d + 1 => by
    simp only [decD]
    by_cases hj : j < bs.getD d 0
    · rw [if_pos hj, if_pos (show i < bs.getD d 0 by omega)]
      exact decD_idem bs h d
    · rw [if_neg hj]
      simp only [decD]
theorem findG_eq (es : List Ent) (bs : List Nat) (name : ByteArray) : ∀ k d, findG es bs name k d = match lastI es name k with
    | none => (0, 0, false)
    | some i => ((es.getD i e0).2, decD bs i d, true)
  | 0, d => by simp [findG, lastI]
  | k + 1, d => by
    simp only [findG, lastI]
    have he : es.getD k (ByteArray.empty, 0) = es.getD k e0 := rfl
    rw [he]
    by_cases hk : (es.getD k e0).1 = name
    · rw [if_pos hk, if_pos hk]
    · rw [if_neg hk, if_neg hk, findG_eq es bs name k]
      cases h : lastI es name k with
      | none => rfl
      | some i => obtain ⟨g1, _, _⟩ := lastI_some h; simp only [decD_idem bs (show i ≤ k by omega)]
theorem findT_eq (es : List Ent) (bs : List Nat) (name : ByteArray) : findT es bs name = match lastI es name es.length with
    | none => (0, 0, false)
    | some i => ((es.getD i e0).2, decD bs i bs.length, true) := findG_eq es bs name es.length bs.length

theorem getD_left {es t : List Ent} {i : Nat} (h : i < es.length) : (es ++ t).getD i e0 = es.getD i e0 := by
  simp [List.getElem?_append_left h]
theorem getD_right {es t : List Ent} {i : Nat} (h : es.length ≤ i) : (es ++ t).getD i e0 = t.getD (i - es.length) e0 := by
  simp [List.getElem?_append_right h]
theorem getD_mem {t : List Ent} {i : Nat} (h : i < t.length) : t.getD i e0 ∈ t := by
  simp [h]
theorem mem_getD {t : List Ent} {e : Ent} (h : e ∈ t) : ∃ i, i < t.length ∧ t.getD i e0 = e := by
  obtain ⟨i, h1, h2⟩ := List.mem_iff_getElem.1 h
  exact ⟨i, h1, by simp [h1, h2]⟩
/-- The last one of a name lies behind, if it is there. -/
theorem lastI_app_in {es t : List Ent} {name : ByteArray} (h : ∃ e ∈ t, e.1 = name) : ∃ i, es.length ≤ i ∧ i < (es ++ t).length ∧ lastI (es ++ t) name (es ++ t).length = some i := by
  obtain ⟨e, he, hn⟩ := h
  obtain ⟨j, hj, rfl⟩ := mem_getD he
  cases hl : lastI (es ++ t) name (es ++ t).length with
  | none =>
    refine absurd ?_ (lastI_none hl (es.length + j) (by simp; omega))
    rw [getD_right (by omega), Nat.add_sub_cancel_left, hn]
  | some i =>
    obtain ⟨g1, g2, g3⟩ := lastI_some hl
    refine ⟨i, ?_, g1, rfl⟩
    by_cases hi : es.length ≤ i
    · exact hi
    · refine absurd ?_ (g3 (es.length + j) (by omega) (by simp; omega))
      rw [getD_right (by omega), Nat.add_sub_cancel_left, hn]
theorem lastI_app_out {es t : List Ent} {name : ByteArray} (h : ∀ e ∈ t, e.1 ≠ name) : lastI (es ++ t) name (es ++ t).length = lastI es name es.length := by
  cases hl : lastI es name es.length with
  | none =>
    refine lastI_none_intro fun j hj => ?_
    by_cases hje : j < es.length
    · rw [getD_left hje]; exact lastI_none hl j hje
    · rw [getD_right (by omega)]
      exact h _ (getD_mem (by simp at hj; omega))
  | some i =>
    obtain ⟨g1, g2, g3⟩ := lastI_some hl
    refine lastI_intro (by simp; omega) (by rw [getD_left g1]; exact g2) fun j h1 h2 => ?_
    by_cases hje : j < es.length
    · rw [getD_left hje]; exact g3 j h1 hje
    · rw [getD_right (by omega)]
      exact h _ (getD_mem (by simp at h2; omega))

/-- What is defined is behind what was there; its values and names. -/
theorem defL_new (bs : List Nat) : ∀ (l : List ByteArray) (v : Int) (es : List Ent), ∃ t, defL bs l v es = es ++ t ∧ ∀ e ∈ t, v ≤ e.2 ∧ e.2 < v + l.length ∧ e.1 ∈ l
  | [], v, es => ⟨[], by simp [defL], by simp⟩
  | a :: l, v, es => by
    simp only [defL, defE]
    split
    · obtain ⟨u, h3, h4⟩ := defL_new bs l (v + 1) (es ++ [(a, v)])
      refine ⟨(a, v) :: u, by rw [h3]; simp, fun e he => ?_⟩
      rcases List.mem_cons.1 he with rfl | he
      · simp; omega
      · obtain ⟨a1, a2, a3⟩ := h4 e he
        exact ⟨by omega, by simp only [List.length_cons]; omega, List.mem_cons_of_mem _ a3⟩
    · obtain ⟨u, h3, h4⟩ := defL_new bs l (v + 1) es
      refine ⟨u, h3, fun e he => ?_⟩
      obtain ⟨a1, a2, a3⟩ := h4 e he
      exact ⟨by omega, by simp only [List.length_cons]; omega, List.mem_cons_of_mem _ a3⟩
/-- A name that may not be defined is one of the innermost scope. -/
theorem defOk_no {es t : List Ent} {name : ByteArray} (h : defOk (es ++ t) [0, es.length] name = false) : ∃ e ∈ t, e.1 = name := by
  have hf := findT_eq (es ++ t) [0, es.length] name
  unfold findT at hf
  unfold defOk at h
  simp only [List.length_cons, List.length_nil] at h hf
  simp only [hf] at h
  cases hl : lastI (es ++ t) name (es ++ t).length with
  | none =>
    simp only [hl] at h
    simp at h
  | some i =>
    obtain ⟨g1, g2, g3⟩ := lastI_some hl
    simp only [hl] at h
    by_cases hi : i < es.length
    · simp [decD, hi] at h
    · rw [getD_right (by omega)] at g2
      exact ⟨_, getD_mem (by simp at g1; omega), g2⟩
theorem defL_has (es : List Ent) : ∀ (l : List ByteArray) (v : Int) (t : List Ent), ∃ u, defL [0, es.length] l v (es ++ t) = es ++ (t ++ u) ∧ ∀ s ∈ l, ∃ e ∈ t ++ u, e.1 = s
  | [], v, t => ⟨[], by simp [defL], by simp⟩
  | a :: l, v, t => by
    simp only [defL, defE]
    cases hd : defOk (es ++ t) [0, es.length] a with
    | true =>
      obtain ⟨u, h1, h2⟩ := defL_has es l (v + 1) (t ++ [(a, v)])
      refine ⟨(a, v) :: u, by simp only [if_true]; rw [List.append_assoc, h1]; simp, fun s hs => ?_⟩
      rcases List.mem_cons.1 hs with rfl | hs
      · exact ⟨(s, v), by simp, rfl⟩
      · obtain ⟨e, he, hn⟩ := h2 s hs
        exact ⟨e, by simpa using he, hn⟩
    | false =>
      obtain ⟨u, h1, h2⟩ := defL_has es l (v + 1) t
      refine ⟨u, by simp only [Bool.false_eq_true, if_false]; rw [h1], fun s hs => ?_⟩
      rcases List.mem_cons.1 hs with rfl | hs
      · obtain ⟨e, he, hn⟩ := defOk_no hd
        exact ⟨e, by simp [he], hn⟩
      · exact h2 s hs
theorem back_facts (outer inner : List ByteArray) (name : ByteArray) (ho : outer.length ≤ 30) : BackFacts outer inner name := by
  rintro es1 es2 r1 r2 h1 h2 rfl rfl
  obtain ⟨t1, k1, k2⟩ := defL_new [0] outer 0 []
  obtain ⟨t, k3, k4⟩ := defL_new [0, es1.length] inner 100 es1
  obtain ⟨u, k5, k6⟩ := defL_has es1 inner 100 []
  simp only [List.append_nil, List.nil_append] at k5 k6 k1
  rw [h1] at k1
  rw [h2] at k3 k5
  rw [k3] at k5
  have hu : t = u := List.append_cancel_left k5
  subst hu k3 k1
  have hin : isIn name inner = true ↔ name ∈ inner := by simp [isIn]
  have hval : ∀ i, i < es1.length → (es1.getD i e0).2 < 100 := fun i hi => by
    have := k2 _ (getD_mem hi); omega
  rw [findT_eq, findT_eq]
  refine ⟨?_, ?_, ?_⟩
  · simp [clsE]
  · by_cases hmem : name ∈ inner
    · rw [hin.2 hmem]
      obtain ⟨i, g1, g2, g3⟩ := lastI_app_in (es := es1) (k6 name hmem)
      simp only [g3, Bool.true_and]
      have := k4 _ (getD_mem (t := t) (i := i - es1.length) (by simp at g2; omega))
      have h5 : 100 ≤ ((es1 ++ t).getD i e0).2 := by rw [getD_right g1]; omega
      simp only [decide_eq_true h5]
    · rw [show isIn name inner = false by rw [← Bool.not_eq_true, hin]; exact hmem]
      rw [lastI_app_out (name := name) (fun e he hn => hmem (by rw [← hn]; exact (k4 e he).2.2))]
      cases hl : lastI es1 name es1.length with
      | none => simp
      | some i =>
        obtain ⟨g1, _, _⟩ := lastI_some hl
        have := hval i g1
        rw [← getD_left (t := t) g1] at this
        simp only [Bool.true_and]
        symm; simp only [decide_eq_false_iff_not]; omega
  · intro hno
    have hmem : ¬ name ∈ inner := fun h => by rw [hin.2 h] at hno; cases hno
    rw [lastI_app_out (name := name) (fun e he hn => hmem (by rw [← hn]; exact (k4 e he).2.2))]
    cases hl : lastI es1 name es1.length with
    | none => simp
    | some i =>
      obtain ⟨g1, _, _⟩ := lastI_some hl
      simp only [getD_left (t := t) g1]
      simp
end Go.Proofs.Ytdjjlpgphkbehaa

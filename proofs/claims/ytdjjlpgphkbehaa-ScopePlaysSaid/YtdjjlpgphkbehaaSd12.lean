/- ScopePlays: what the walk needs in plain words. -/
import Derived.Test.YtdjjlpgphkbehaaSd9
namespace Go.Proofs.Ytdjjlpgphkbehaa
open Go Go.Sx Go.Sx.Chunk
set_option linter.unusedVariables false
set_option linter.unusedSimpArgs false

/-- A name, what it is, and in which scope. -/
abbrev R3 := ByteArray × Int × Nat
def r3V (e : R3) : List Value := [.string e.1, .int .i64 e.2.1, .int .i64 (e.2.2 : Int)]
def r3C (l : List R3) : List Value := l.flatMap r3V
def r3d : R3 := (.empty, 0, 0)
def esL (l : List R3) : List (ByteArray × Int) := l.map fun e => (e.1, e.2.1)
def bsL (l : List R3) (d : Nat) : List Nat := (List.range d).map fun j => l.countP fun e => decide (e.2.2 ≤ j)
/-- The scopes rise, and no name stands twice in one. -/
def val3 (l : List R3) (d : Nat) : Prop := l.Pairwise (fun a b => a.2.2 ≤ b.2.2 ∧ (a.1 = b.1 → a.2.2 < b.2.2)) ∧ ∀ e ∈ l, e.2.2 ≤ d
/-- The document's Find. -/
def bestF (l : List R3) (name : ByteArray) : Nat → Int
  | 0 => -1
  | k + 1 => if (l.getD k r3d).1 = name ∧ (bestF l name k < 0 ∨ (l.getD (bestF l name k).toNat r3d).2.2 < (l.getD k r3d).2.2) then (k : Int) else bestF l name k
theorem best_lt (l : List R3) (name : ByteArray) : ∀ k, -1 ≤ bestF l name k ∧ bestF l name k < k
  | 0 => by simp [bestF]
  | k + 1 => by
    have := best_lt l name k
    simp only [bestF]
    split <;> omega

theorem cnt_drop : ∀ (l : List R3) (j : Nat), l.Pairwise (fun a b => a.2.2 ≤ b.2.2) → l.take (l.countP fun e => decide (e.2.2 ≤ j)) = l.filter (fun e => decide (e.2.2 ≤ j)) ∧ l.drop (l.countP fun e => decide (e.2.2 ≤ j)) = l.filter (fun e => !decide (e.2.2 ≤ j))
  | [], j, _ => by simp
  | a :: l, j, h => by
    obtain ⟨h1, h2⟩ := List.pairwise_cons.1 h
    obtain ⟨i1, i2⟩ := cnt_drop l j h2
    by_cases ha : a.2.2 ≤ j
    · have e : (a :: l).countP (fun e => decide (e.2.2 ≤ j)) = l.countP (fun e => decide (e.2.2 ≤ j)) + 1 := by simp [List.countP_cons, ha]
      rw [e, List.take_succ_cons, List.drop_succ_cons, i1, i2]
      simp [List.filter_cons, ha]
    · have h0 : l.countP (fun e => decide (e.2.2 ≤ j)) = 0 := by
        rw [List.countP_eq_zero]
        intro b hb
        have := h1 b hb
        simp; omega
      have e : (a :: l).countP (fun e => decide (e.2.2 ≤ j)) = 0 := by simp [List.countP_cons, ha, h0]
      rw [h0] at i1 i2
      rw [e]
      rw [List.take_zero] at i1 ⊢
      rw [List.drop_zero] at i2 ⊢
      rw [List.filter_cons, List.filter_cons, ← i1, ← i2]
      simp [ha]
theorem cnt_lt : ∀ (l : List R3) (j i : Nat), l.Pairwise (fun a b => a.2.2 ≤ b.2.2) → (hi : i < l.length) → (i < l.countP (fun e => decide (e.2.2 ≤ j)) ↔ l[i].2.2 ≤ j)
  | [], j, i, _, hi => by simp at hi
  | a :: l, j, i, h, hi => by
    obtain ⟨h1, h2⟩ := List.pairwise_cons.1 h
    by_cases ha : a.2.2 ≤ j
    · have e : (a :: l).countP (fun e => decide (e.2.2 ≤ j)) = l.countP (fun e => decide (e.2.2 ≤ j)) + 1 := by simp [List.countP_cons, ha]
      rw [e]
      cases i with
      | zero => simp [ha]
      | succ i =>
        have := cnt_lt l j i h2 (by simpa using hi)
        simp only [List.getElem_cons_succ]
        omega
    · have h0 : l.countP (fun e => decide (e.2.2 ≤ j)) = 0 := by
        rw [List.countP_eq_zero]
        intro b hb
        have := h1 b hb
        simp; omega
      have e : (a :: l).countP (fun e => decide (e.2.2 ≤ j)) = 0 := by simp [List.countP_cons, ha, h0]
      rw [e]
      cases i with
      | zero => simp [ha]
      | succ i =>
        have hi' : i < l.length := by simpa using hi
        have := h1 l[i] (List.getElem_mem _)
        simp only [List.getElem_cons_succ]
        omega
theorem val_sort {l : List R3} {d : Nat} (h : val3 l d) : l.Pairwise (fun a b => a.2.2 ≤ b.2.2) := h.1.imp (fun h => h.1)
theorem bsL_len (l : List R3) (d : Nat) : (bsL l d).length = d := by simp [bsL]
theorem esL_len (l : List R3) : (esL l).length = l.length := by simp [esL]
theorem bsL_get (l : List R3) (d k : Nat) (h : k < d) : (bsL l d).getD k 0 = l.countP (fun e => decide (e.2.2 ≤ k)) := by simp [bsL, h]
theorem dec_at {l : List R3} {d : Nat} (h : val3 l d) {i : Nat} (hi : i < l.length) : ∀ k, k ≤ d → l[i].2.2 ≤ k → decD (bsL l d) i k = l[i].2.2
  | 0, _, h0 => by simp only [decD]; omega
  | k + 1, hk, h0 => by
    simp only [decD]
    rw [bsL_get l d k (by omega)]
    have := cnt_lt l k i (val_sort h) hi
    split
    · rename_i hlt
      exact dec_at h hi k (by omega) (this.1 hlt)
    · rename_i hlt
      have h2 : ¬ l[i].2.2 ≤ k := fun h => hlt (this.2 h)
      omega
/-- Both Finds agree. -/
theorem find_both {l : List R3} {d : Nat} (h : val3 l d) (name : ByteArray) : ∀ k c, k ≤ l.length → c ≤ d → (∀ j, (hj : j < l.length) → j < k → l[j].2.2 ≤ c) →
    (bestF l name k = -1 ∧ findG (esL l) (bsL l d) name k c = (0, 0, false) ∧ ∀ j, (hj : j < l.length) → j < k → l[j].1 ≠ name) ∨
    ∃ i, ∃ hi : i < l.length, i < k ∧ bestF l name k = (i : Int) ∧ l[i].1 = name ∧ findG (esL l) (bsL l d) name k c = (l[i].2.1, l[i].2.2, true) ∧ ∀ j, (hj : j < l.length) → j < k → l[j].1 = name → j ≤ i
  | 0, c, _, _, _ => .inl ⟨rfl, rfl, fun j _ hj => by omega⟩
  | k + 1, c, hk, hc, hall => by
    have hkl : k < l.length := hk
    have hg : l.getD k r3d = l[k] := by simp [hkl]
    have hge : (esL l).getD k (.empty, 0) = (l[k].1, l[k].2.1) := by simp [esL, hkl]
    have hdec := dec_at h hkl c hc (hall k hkl (by omega))
    have hpw := List.pairwise_iff_getElem.1 h.1
    have ih := find_both h name k l[k].2.2 (by omega) (h.2 _ (List.getElem_mem _)) (fun j hj hjk => (hpw j k hj hkl hjk).1)
    simp only [findG, bestF, hge, hg, hdec]
    by_cases hn : l[k].1 = name
    · right
      have hc : bestF l name k < 0 ∨ (l.getD (bestF l name k).toNat r3d).2.2 < l[k].2.2 := by
        rcases ih with ⟨h1, _, _⟩ | ⟨i, hi, hik, h1, h2, _, _⟩
        · left; rw [h1]; decide
        · right
          rw [h1]
          have := (hpw i k hi hkl hik).2 (h2.trans hn.symm)
          simpa [hi] using this
      refine ⟨k, hkl, by omega, ?_, hn, by rw [if_pos hn], fun j hj hjk _ => by omega⟩
      rw [if_pos ⟨hn, hc⟩]
    · rw [if_neg hn, if_neg (fun h => hn h.1)]
      rcases ih with ⟨h1, h2, h3⟩ | ⟨i, hi, hik, h1, h2, h3, h4⟩
      · refine .inl ⟨h1, h2, fun j hj hjk => ?_⟩
        by_cases hjk' : j = k
        · subst hjk'; exact hn
        · exact h3 j hj (by omega)
      · refine .inr ⟨i, hi, by omega, h1, h2, h3, fun j hj hjk hjn => ?_⟩
        by_cases hjk' : j = k
        · subst hjk'; exact absurd hjn hn
        · exact h4 j hj (by omega) hjn
/-- What Find tells, in the document's words. -/
theorem find_all {l : List R3} {d : Nat} (h : val3 l d) (name : ByteArray) :
    (bestF l name l.length = -1 ∧ findT (esL l) (bsL l d) name = (0, 0, false) ∧ ∀ e ∈ l, e.1 ≠ name) ∨
    ∃ (i : Nat) (e : R3), l[i]? = some e ∧ bestF l name l.length = (i : Int) ∧ e.1 = name ∧ e.2.2 ≤ d ∧ findT (esL l) (bsL l d) name = (e.2.1, e.2.2, true) ∧ ∀ x ∈ l, x.1 = name → x.2.2 ≤ e.2.2 := by
  unfold findT
  rw [esL_len, bsL_len]
  rcases find_both h name l.length d (Nat.le_refl _) (Nat.le_refl _) (fun j hj _ => h.2 _ (List.getElem_mem _)) with ⟨h1, h2, h3⟩ | ⟨i, hi, _, h1, h2, h3, h4⟩
  · refine .inl ⟨h1, h2, fun e he => ?_⟩
    obtain ⟨j, hj, rfl⟩ := List.mem_iff_getElem.1 he
    exact h3 j hj hj
  · refine .inr ⟨i, l[i], by simp [hi], h1, h2, h.2 _ (List.getElem_mem _), h3, fun x hx hxn => ?_⟩
    obtain ⟨j, hj, rfl⟩ := List.mem_iff_getElem.1 hx
    have hle := h4 j hj hj hxn
    by_cases hji : j = i
    · subst hji; exact Nat.le_refl _
    · exact (List.pairwise_iff_getElem.1 h.1 j i hj hi (by omega)).1
/-- May a name be defined, in the document's words. -/
def mayF (l : List R3) (d : Nat) (name : ByteArray) : Bool := decide (0 < d) && (decide (bestF l name l.length < 0) || decide ((l.getD (bestF l name l.length).toNat r3d).2.2 < d))
theorem may_ok {l : List R3} {d : Nat} (h : val3 l d) (name : ByteArray) : defOk (esL l) (bsL l d) name = mayF l d name := by
  unfold defOk mayF
  rw [esL_len, bsL_len]
  have := find_all h name
  unfold findT at this
  rw [esL_len, bsL_len] at this
  rcases this with ⟨h1, h2, h3⟩ | ⟨i, e, hi, h1, h2, h3, h4, h5⟩
  · rw [h1, h2]
    cases d <;> simp
  · rw [h1, h4]
    have hd : l.getD (i : Int).toNat r3d = e := by simp [hi]
    have e1 : decide ((i : Int) < 0) = false := by simp
    have e2 : decide (e.2.2 < d) = !decide (e.2.2 = d) := by
      by_cases h6 : e.2.2 = d
      · simp [h6]
      · have : e.2.2 < d := by omega
        simp [h6, this]
    have e3 : (d != 0) = decide (0 < d) := by cases d <;> simp
    rw [hd, e1, e2, e3]
    simp
theorem val_nil (d : Nat) : val3 [] d := ⟨List.Pairwise.nil, by simp⟩
theorem val_up {l : List R3} {d : Nat} (h : val3 l d) : val3 l (d + 1) := ⟨h.1, fun e he => Nat.le_succ_of_le (h.2 e he)⟩
theorem val_def {l : List R3} {d : Nat} (h : val3 l d) {name : ByteArray} {v : Int} (hm : mayF l d name = true) : val3 (l ++ [(name, v, d)]) d := by
  refine ⟨List.pairwise_append.2 ⟨h.1, List.pairwise_singleton _ _, ?_⟩, ?_⟩
  · intro a ha b hb
    rw [List.mem_singleton] at hb
    subst hb
    refine ⟨h.2 a ha, fun hn => ?_⟩
    dsimp only at hn ⊢
    unfold mayF at hm
    rcases find_all h name with ⟨h1, h2, h3⟩ | ⟨i, e, hi, h1, h2, h3, h4, h5⟩
    · exact absurd hn (h3 a ha)
    · rw [h1] at hm
      have hd : l.getD (i : Int).toNat r3d = e := by simp [hi]
      rw [hd] at hm
      have := h5 a ha hn
      simp at hm
      omega
  · intro e he
    rcases List.mem_append.1 he with he | he
    · exact h.2 e he
    · rw [List.mem_singleton] at he; subst he; exact Nat.le_refl _
theorem bsL_def (l : List R3) (d : Nat) (name : ByteArray) (v : Int) : bsL (l ++ [(name, v, d)]) d = bsL l d := by
  unfold bsL
  refine List.map_congr_left fun j hj => ?_
  rw [List.mem_range] at hj
  have : decide (d ≤ j) = false := by simp; omega
  simp [List.countP_append, List.countP_cons, this]
theorem esL_def (l : List R3) (d : Nat) (name : ByteArray) (v : Int) : esL (l ++ [(name, v, d)]) = esL l ++ [(name, v)] := by simp [esL]
theorem bsL_open {l : List R3} {d : Nat} (h : val3 l d) : bsL l d ++ [(esL l).length] = bsL l (d + 1) := by
  unfold bsL
  rw [List.range_succ, List.map_append, esL_len]
  congr 1
  simp only [List.map_cons, List.map_nil]
  congr 1
  symm
  rw [List.countP_eq_length]
  intro e he
  have := h.2 e he
  simpa using this
/-- Without those of the scope. -/
def clsL (l : List R3) (d : Nat) : List R3 := l.filter fun e => decide (e.2.2 < d)
theorem val_cls {l : List R3} {d : Nat} (h : val3 l (d + 1)) : val3 (clsL l (d + 1)) d := by
  refine ⟨h.1.filter _, fun e he => ?_⟩
  have := (List.mem_filter.1 he).2
  simp at this
  omega
theorem bsL_cls (l : List R3) (d : Nat) : (bsL l (d + 1)).dropLast = bsL (clsL l (d + 1)) d := by
  unfold bsL clsL
  rw [List.range_succ, List.map_append, List.map_cons, List.map_nil, List.dropLast_concat]
  refine List.map_congr_left fun j hj => ?_
  rw [List.mem_range] at hj
  rw [List.countP_filter]
  congr 1
  funext e
  by_cases he : e.2.2 ≤ j
  · have : e.2.2 < d + 1 := by omega
    simp [he, this]
  · simp [he]
theorem esL_cls {l : List R3} {d : Nat} (h : val3 l (d + 1)) : clsE (esL l) (bsL l (d + 1)) = esL (clsL l (d + 1)) := by
  unfold clsE
  rw [bsL_len, if_neg (by omega)]
  have hl : (bsL l (d + 1)).getLastD 0 = l.countP (fun e => decide (e.2.2 ≤ d)) := by
    unfold bsL
    rw [List.range_succ, List.map_append, List.map_cons, List.map_nil, List.getLastD_concat]
  rw [hl]
  unfold esL clsL
  rw [← List.map_take, (cnt_drop l d (val_sort h)).1]
  congr 1
  refine List.filter_congr fun e he => ?_
  simp; omega
/-- Those of the scope. -/
def ownL (l : List R3) (d : Nat) : List R3 := l.filter fun e => decide (e.2.2 = d) && decide (0 < d)
theorem own_all {l : List R3} {d : Nat} (h : val3 l d) : ownE (esL l) (bsL l d) = esL (ownL l d) := by
  unfold ownE ownL
  rw [bsL_len]
  cases d with
  | zero => simp [esL]
  | succ d =>
    rw [if_neg (by omega)]
    have hl : (bsL l (d + 1)).getLastD 0 = l.countP (fun e => decide (e.2.2 ≤ d)) := by
      unfold bsL
      rw [List.range_succ, List.map_append, List.map_cons, List.map_nil, List.getLastD_concat]
    rw [hl]
    unfold esL
    rw [← List.map_drop, (cnt_drop l d (val_sort h)).2]
    congr 1
    refine List.filter_congr fun e he => ?_
    have := h.2 e he
    by_cases h2 : e.2.2 = d + 1
    · simp [h2]
    · have : e.2.2 ≤ d := by omega
      simp [h2, this]
theorem val_ok {l : List R3} {d : Nat} (h : val3 l d) (hl : l.length ≤ 100) (hd : d ≤ 100) : okT (esL l) (bsL l d) := by
  refine ⟨by rw [esL_len]; omega, by rw [bsL_len]; omega, fun v hv => ?_⟩
  rw [esL_len]
  unfold bsL at hv
  obtain ⟨j, _, rfl⟩ := List.mem_map.1 hv
  exact List.countP_le_length
end Go.Proofs.Ytdjjlpgphkbehaa

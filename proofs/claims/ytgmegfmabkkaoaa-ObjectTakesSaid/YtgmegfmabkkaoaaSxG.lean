/- Small rules for symbolic steps, the sixteenth part: arguments that are slices, opened. Program-independent. -/
import Derived.Test.YtgmegfmabkkaoaaSxF
import Derived.ChangeArms
namespace Go.Sx
open Go Chunk
open Go.ChangeShapes Go.WideShapes Go.RowKit
set_option linter.unusedSimpArgs false
set_option linter.unusedVariables false

section
variable {H : Type} {enc : TypeId × Value → H} {P : Program} {w : World} {base b0 : Nat} {spare : Nat → Bool} {held : Bool} {r : Reach}
/-- What the cells of a type are: a thing that is right, and what it leads to may be read. -/
def Dec (enc : TypeId × Value → H) (P : Program) (w : World) (base : Nat) (spare : Nat → Bool) (held : Bool) (t : TypeId) {α : Type} (cells : α → List Value) (ok : α → Prop) (seen : α → List Chunk) : Prop :=
  ∀ (fuel : Nat) (cs : List Value) (x : DataW H × List MemPlace), DataW.trod enc P w base spare held fuel t cs = some x → ∃ a : α, cs = cells a ∧ ok a ∧ Seen w (seen a)
theorem dec_int {t : TypeId} {k : IntKind} (ht : P.underlying t = some (.int k)) : Dec enc P w base spare held t (α := Int) (fun n => [.int k n]) (fun n => inK k n) (fun _ => []) := fun fuel cs x h => by
  obtain ⟨n, rfl, _, hw⟩ := DataW.trod_int ht h
  exact ⟨n, rfl, by simpa [Lit.wf, inK] using hw, trivial⟩
theorem dec_string {t : TypeId} (ht : P.underlying t = some .string) : Dec enc P w base spare held t (α := ByteArray) (fun s => [.string s]) (fun s => s.size ≤ maxLen) (fun _ => []) := fun fuel cs x h => by
  obtain ⟨s, rfl, _, hs⟩ := DataW.trod_string ht h
  exact ⟨s, rfl, hs, trivial⟩
theorem dec_bool {t : TypeId} (ht : P.underlying t = some .bool) : Dec enc P w base spare held t (α := Bool) (fun s => [.bool s]) (fun s => True) (fun _ => []) := fun fuel cs x h => by
  obtain ⟨s, rfl, _⟩ := DataW.trod_bool ht h
  exact ⟨s, rfl, trivial, trivial⟩

theorem Seen.append {w : World} : ∀ {A B : List Chunk}, Seen w A → Seen w B → Seen w (A ++ B)
  | [], _, _, h => h
  | c :: A, B, h, h2 => ⟨h.1, h.2.append h2⟩
theorem Seen.flat {w : World} {α : Type} {f : α → List Chunk} : ∀ {l : List α}, (∀ a ∈ l, Seen w (f a)) → Seen w (l.flatMap f)
  | [], _ => trivial
  | a :: l, h => by
    rw [List.flatMap_cons]
    exact (h a (by simp)).append (Seen.flat (fun b hb => h b (by simp [hb])))

theorem flat_len {α : Type} {cells : α → List Value} {sz : Nat} (hc : ∀ a, (cells a).length = sz) : ∀ l : List α, (l.flatMap cells).length = l.length * sz
  | [] => by simp
  | a :: l => by rw [List.flatMap_cons, List.length_append, hc, flat_len hc l, List.length_cons, Nat.add_mul]; omega
theorem flat_get {α : Type} {cells : α → List Value} {sz : Nat} (hc : ∀ a, (cells a).length = sz) : ∀ {l : List α} {k : Nat} {a : α}, l[k]? = some a → ((l.flatMap cells).drop (k * sz)).take sz = cells a
  | [], k, a, h => by simp at h
  | b :: l, 0, a, h => by
    simp only [List.getElem?_cons_zero, Option.some.injEq] at h
    subst h
    rw [Nat.zero_mul, List.drop_zero, List.flatMap_cons, List.take_left' (hc b)]
  | b :: l, k + 1, a, h => by
    rw [List.flatMap_cons, show (k + 1) * sz = (cells b).length + k * sz by rw [hc, Nat.add_mul]; omega, List.drop_append, List.drop_of_length_le (by omega), List.nil_append, Nat.add_sub_cancel_left]
    exact flat_get hc (by simpa using h)
theorem flat_at {α : Type} {cells : α → List Value} {sz : Nat} (hc : ∀ a, (cells a).length = sz) {l : List α} {k j : Nat} {a : α} (h : l[k]? = some a) (hj : j < sz) : (l.flatMap cells)[k * sz + j]? = (cells a)[j]? := by
  rw [← flat_get hc h, List.getElem?_take, if_pos hj, List.getElem?_drop]

/-- A slice, by its elements. -/
theorem dec_slice {t e : TypeId} {α : Type} {cells : α → List Value} {ok : α → Prop} {seen : α → List Chunk} {sz : Nat} (ht : P.underlying t = some (.slice e)) (hsz : P.cellsOf e = sz) (hpos : 0 < sz) (hc : ∀ a, (cells a).length = sz) (hd : Dec enc P w base spare held e cells ok seen)
    (fuel : Nat) (cs : List Value) (x : DataW H × List MemPlace) (h : DataW.trod enc P w base spare held fuel t cs = some x) :
    ∃ (ao : Option Addr) (cap : Nat) (l : List α), cs = [.slice ao l.length cap] ∧ l.length ≤ cap ∧ cap ≤ maxLen ∧ (∀ a ∈ l, ok a) ∧ Seen w (rng ao (l.flatMap cells) :: l.flatMap seen) := by
  have hlt := DataW.trod_lt fuel t cs x h
  rcases DataW.trod_slice ht h with ⟨rfl, _⟩ | ⟨a, len, cap, elems, rest, n, _, rfl, rfl, hb, hl, hm, hlen, hel, hsp, hns⟩
  · exact ⟨none, 0, [], rfl, Nat.le_refl _, by unfold maxLen; omega, by simp, ⟨rfl, fun j v hj => by simp at hj, fun k hk => absurd rfl hk.1⟩, trivial⟩
  · have each : ∀ i, i < len → ∃ b : α, (∀ j v, (cells b)[j]? = some v → w.cell? (a.add (i * sz + j)) = some v) ∧ ok b ∧ Seen w (seen b) := by
      intro i hi
      have h1 := hel i hi
      rw [hsz, List.getElem?_eq_getElem (by omega), Option.bind_eq_some_iff] at h1
      obtain ⟨cs', hcs, hy⟩ := h1
      obtain ⟨b, rfl, hok, hseen⟩ := hd n cs' _ hy
      refine ⟨b, fun j v hj => ?_, hok, hseen⟩
      obtain ⟨_, h2, h3⟩ := World.cells?_some hcs
      have hj' := (List.getElem?_eq_some_iff.1 hj).1
      have := h3 j (by rw [hc] at hj'; omega)
      rw [add_add] at this
      rw [this, hj]
    have key : ∀ m, m ≤ len → ∃ l : List α, l.length = m ∧ (∀ b ∈ l, ok b ∧ Seen w (seen b)) ∧ ∀ j v, (l.flatMap cells)[j]? = some v → w.cell? (a.add j) = some v := by
      intro m
      induction m with
      | zero => exact fun _ => ⟨[], rfl, by simp, by simp⟩
      | succ m ih =>
        intro hm'
        obtain ⟨l, hl1, hl2, hl3⟩ := ih (by omega)
        obtain ⟨b, hb1, hb2, hb3⟩ := each m (by omega)
        refine ⟨l ++ [b], by simp [hl1], ?_, ?_⟩
        · intro c hc'
          rcases List.mem_append.1 hc' with hc' | hc'
          · exact hl2 c hc'
          · simp only [List.mem_singleton] at hc'
            subst hc'
            exact ⟨hb2, hb3⟩
        · intro j v hj
          rw [List.flatMap_append, List.flatMap_cons, List.flatMap_nil, List.append_nil] at hj
          have hfl := flat_len hc l
          rw [hl1] at hfl
          by_cases hjl : j < m * sz
          · rw [List.getElem?_append_left (by omega)] at hj
            exact hl3 j v hj
          · rw [List.getElem?_append_right (by omega), hfl] at hj
            have := hb1 (j - m * sz) v hj
            rwa [show m * sz + (j - m * sz) = j by omega] at this
    obtain ⟨l, hl1, hl2, hl3⟩ := key len (Nat.le_refl _)
    refine ⟨some a, cap, l, by rw [hl1], by omega, hm, fun b hb' => (hl2 b hb').1, ⟨rfl, fun j v hj => ⟨a, rfl, hl3 j v hj⟩, fun k hk => ?_⟩, Seen.flat (fun b hb' => (hl2 b hb').2)⟩
    obtain ⟨hne, a', ha, rfl⟩ := hk
    cases ha
    have hfl := flat_len hc l
    have hl0 : 0 < l.length := by
      rcases Nat.eq_zero_or_pos l.length with h0 | h0
      · rw [List.length_eq_zero_iff.1 h0] at hne; simp at hne
      · exact h0
    have := hlt (.cell a.block (a.off + 0)) (by
      refine List.mem_append.2 (.inl ?_)
      unfold MemPlace.row
      refine List.mem_map.2 ⟨0, ?_, rfl⟩
      rw [List.mem_range, hsz]
      exact Nat.mul_pos (by omega) hpos)
    exact this
/-- An argument that is a slice. -/
theorem arg_slice {t e : TypeId} {α : Type} {cells : α → List Value} {ok : α → Prop} {seen : α → List Chunk} {sz : Nat} {v : Value} {d : DataW H} {ps : List MemPlace} (ht : P.underlying t = some (.slice e)) (hsz : P.cellsOf e = sz) (hpos : 0 < sz) (hc : ∀ a, (cells a).length = sz) (hd : Dec enc P w base spare held e cells ok seen)
    (hv : Value.okWide P w r b0 t v) (h : DataW.Trod enc P w base spare held t v d ps) :
    ∃ (ao : Option Addr) (cap : Nat) (l : List α), v = .slice ao l.length cap ∧ l.length ≤ cap ∧ cap ≤ maxLen ∧ (∀ a ∈ l, ok a) ∧ Seen w (rng ao (l.flatMap cells) :: l.flatMap seen) := by
  obtain ⟨a0, len, cap, rfl⟩ := okWide_slice ht hv
  obtain ⟨fuel, hf⟩ := h
  obtain ⟨ao, cap', l, hcs, h1, h2, h3, h4⟩ := dec_slice ht hsz hpos hc hd fuel _ _ hf
  simp [Value.cells] at hcs
  obtain ⟨rfl, rfl, rfl⟩ := hcs
  exact ⟨a0, cap, l, rfl, h1, h2, h3, h4⟩
end
end Go.Sx

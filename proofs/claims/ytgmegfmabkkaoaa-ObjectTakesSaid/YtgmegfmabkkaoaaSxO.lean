/- Small rules for symbolic steps, the twenty-fourth part: arguments opened, with how much they weigh. Program-independent. -/
import Derived.Test.YtgmegfmabkkaoaaSxN
import Derived.SizedLaws
namespace Go.Sx
open Go Chunk
open Go.ChangeShapes Go.WideShapes Go.RowKit
set_option linter.unusedSimpArgs false
set_option linter.unusedVariables false
section
variable {H : Type} {enc : TypeId × Value → H} {P : Program} {w : World} {base b0 : Nat} {spare : Nat → Bool} {held : Bool} {r : Reach}
/-- None of it weighs too much. -/
def Light (P : Program) (t : TypeId) (d : DataW H) : Prop := ∀ n ∈ d.weights P t, n ≤ reachBytes
def DecW (enc : TypeId × Value → H) (P : Program) (w : World) (base : Nat) (spare : Nat → Bool) (held : Bool) (t : TypeId) {α : Type} (cells : α → List Value) (ok : α → Prop) (seen : α → List Chunk) : Prop :=
  ∀ (fuel : Nat) (cs : List Value) (x : DataW H × List MemPlace), DataW.trod enc P w base spare held fuel t cs = some x → Light P t x.1 → ∃ a : α, cs = cells a ∧ ok a ∧ Seen w (seen a)
theorem decW_of {t : TypeId} {α : Type} {cells : α → List Value} {ok : α → Prop} {seen : α → List Chunk} (h : Dec enc P w base spare held t cells ok seen) : DecW enc P w base spare held t cells ok seen := fun fuel cs x hx _ => h fuel cs x hx
theorem decW_string {t : TypeId} (ht : P.underlying t = some .string) : DecW enc P w base spare held t (α := ByteArray) (fun s => [.string s]) (fun s => s.size ≤ maxLen) (fun _ => []) := decW_of (dec_string ht)
theorem DecW.iso {t : TypeId} {α β : Type} {c1 : α → List Value} {ok1 : α → Prop} {s1 : α → List Chunk} {c2 : β → List Value} {ok2 : β → Prop} {s2 : β → List Chunk} (g : α → β) (hc : ∀ a, c1 a = c2 (g a)) (ho : ∀ a, ok1 a → ok2 (g a)) (hs : ∀ a, s1 a = s2 (g a)) (h : DecW enc P w base spare held t c1 ok1 s1) : DecW enc P w base spare held t c2 ok2 s2 := fun fuel cs x hx hl => by
  obtain ⟨a, h1, h2, h3⟩ := h fuel cs x hx hl
  exact ⟨g a, by rw [h1, hc], ho a h2, by rw [← hs]; exact h3⟩
theorem weightsAll_mem {e : TypeId} : ∀ {l : List (DataW H)} {d : DataW H}, d ∈ l → ∀ n ∈ d.weights P e, n ∈ DataW.weightsAll P e l
  | [], d, h, n, hn => by simp at h
  | y :: l, d, h, n, hn => by
    simp only [DataW.weightsAll, List.mem_append]
    rcases List.mem_cons.1 h with rfl | h
    · exact .inl hn
    · exact .inr (weightsAll_mem h n hn)
theorem weightsEach_mem {fs : List Field} : ∀ {l : List (DataW H)} {i : Nat} {f : Field} {d : DataW H}, fs[i]? = some f → l[i]? = some d → ∀ n ∈ d.weights P f.type, n ∈ DataW.weightsEach P (fs.map (·.type)) l := fun {l i f d} hf hd n hn =>
  DataW.weights_mem_each (j := i) (t := f.type) (by simp [hf]) hd n hn
/-- A slice, by its elements. -/
theorem decW_slice {t e : TypeId} {α : Type} {cells : α → List Value} {ok : α → Prop} {seen : α → List Chunk} {sz bz : Nat} (ht : P.underlying t = some (.slice e)) (hsz : P.cellsOf e = sz) (hbz : P.bytesOf e = bz) (hpos : 0 < sz) (hc : ∀ a, (cells a).length = sz) (hd : DecW enc P w base spare held e cells ok seen) :
    DecW enc P w base spare held t (fun x : Option Addr × Nat × List α => [.slice x.1 x.2.2.length x.2.1]) (fun x => (x.2.2.length ≤ x.2.1 ∧ x.2.1 ≤ maxLen ∧ x.2.2.length * bz ≤ reachBytes) ∧ ∀ a ∈ x.2.2, ok a) (fun x => rng x.1 (x.2.2.flatMap cells) :: x.2.2.flatMap seen) := fun fuel cs x h hlight => by
  have hlt := DataW.trod_lt fuel t cs x h
  rcases DataW.trod_slice ht h with ⟨rfl, _⟩ | ⟨a, len, cap, elems, rest, n, _, rfl, rfl, hb, hl, hm, hlen, hel, hsp, hns⟩
  · exact ⟨(none, 0, []), rfl, ⟨⟨Nat.le_refl _, by unfold maxLen; exact Nat.zero_le _, by simp⟩, by simp⟩, ⟨rfl, fun j v hj => by simp at hj, fun k hk => absurd rfl hk.1⟩, trivial⟩
  · have hw0 : ∀ n ∈ DataW.weights P t (.slice (elems.map (·.1)) (rest.map (·.1)) : DataW H), n ≤ reachBytes := hlight
    have hw1 : (elems.length + rest.length) * bz ≤ reachBytes := hw0 _ (by simp [DataW.weights, ht, hbz])
    have each : ∀ i, i < len → ∃ b : α, (∀ j v, (cells b)[j]? = some v → w.cell? (a.add (i * sz + j)) = some v) ∧ ok b ∧ Seen w (seen b) := by
      intro i hi
      have h1 := hel i hi
      rw [hsz, List.getElem?_eq_getElem (by omega), Option.bind_eq_some_iff] at h1
      obtain ⟨cs', hcs, hy⟩ := h1
      obtain ⟨b, rfl, hok, hseen⟩ := hd n cs' _ hy (fun n hn => hw0 n (by
        simp only [DataW.weights, ht, List.mem_cons, List.mem_append]
        exact .inr (.inl (weightsAll_mem (List.mem_map.2 ⟨elems[i], List.getElem_mem _, rfl⟩) n hn))))
      refine ⟨b, fun j v hj => ?_, hok, hseen⟩
      obtain ⟨_, h2, h3⟩ := World.cells?_some hcs
      have hj' := (List.getElem?_eq_some_iff.1 hj).1
      have := h3 j (by rw [hc] at hj'; omega)
      rw [add_add] at this
      rw [this, hj]
    have key : ∀ m, m ≤ len → ∃ l : List α, l.length = m ∧ (∀ b ∈ l, ok b ∧ Seen w (seen b)) ∧ ∀ j v, (l.flatMap cells)[j]? = some v → w.cell? (a.add j) = some v := by
      intro m
      induction m with
      | zero => exact fun _ => ⟨[], rfl, by simp, by simp⟩
      | succ m ih =>
        intro hm'
        obtain ⟨l, hl1, hl2, hl3⟩ := ih (by omega)
        obtain ⟨b, hb1, hb2, hb3⟩ := each m (by omega)
        refine ⟨l ++ [b], by simp [hl1], ?_, ?_⟩
        · intro c hc'
          rcases List.mem_append.1 hc' with hc' | hc'
          · exact hl2 c hc'
          · simp only [List.mem_singleton] at hc'
            subst hc'
            exact ⟨hb2, hb3⟩
        · intro j v hj
          rw [List.flatMap_append, List.flatMap_cons, List.flatMap_nil, List.append_nil] at hj
          have hfl := flat_len hc l
          rw [hl1] at hfl
          by_cases hjl : j < m * sz
          · rw [List.getElem?_append_left (by omega)] at hj
            exact hl3 j v hj
          · rw [List.getElem?_append_right (by omega), hfl] at hj
            have := hb1 (j - m * sz) v hj
            rwa [show m * sz + (j - m * sz) = j by omega] at this
    obtain ⟨l, hl1, hl2, hl3⟩ := key len (Nat.le_refl _)
    refine ⟨(some a, cap, l), (by show [Value.slice (some a) len cap] = [.slice (some a) l.length cap]; rw [hl1]), ⟨⟨by dsimp only; omega, hm, ?_⟩, fun b hb' => (hl2 b hb').1⟩, ⟨rfl, fun j v hj => ⟨a, rfl, hl3 j v hj⟩, fun k hk => ?_⟩, Seen.flat (fun b hb' => (hl2 b hb').2)⟩
    · dsimp only
      rw [hl1, ← hlen]
      exact Nat.le_trans (Nat.mul_le_mul_right _ (Nat.le_add_right _ _)) hw1
    · obtain ⟨hne, a', ha, rfl⟩ := hk
      cases ha
      have hfl := flat_len hc l
      have hl0 : 0 < l.length := by
        rcases Nat.eq_zero_or_pos l.length with h0 | h0
        · rw [List.length_eq_zero_iff.1 h0] at hne; simp at hne
        · exact h0
      have := hlt (.cell a.block (a.off + 0)) (by
        refine List.mem_append.2 (.inl ?_)
        unfold MemPlace.row
        refine List.mem_map.2 ⟨0, ?_, rfl⟩
        rw [List.mem_range, hsz]
        exact Nat.mul_pos (by omega) hpos)
      exact this
def DecFW (enc : TypeId × Value → H) (P : Program) (w : World) (base : Nat) (spare : Nat → Bool) (held : Bool) (fs : List Field) (o sz : Nat) {α : Type} (cells : α → List Value) (ok : α → Prop) (seen : α → List Chunk) : Prop :=
  ∀ (n : Nat) (cs : List Value), (∀ f ∈ fs, ∃ y, DataW.trod enc P w base spare held n f.type ((cs.drop f.offset).take (P.cellsOf f.type)) = some y ∧ Light P f.type y.1) → ∃ a : α, (cs.drop o).take sz = cells a ∧ ok a ∧ Seen w (seen a)
theorem decFW_nil {o : Nat} : DecFW enc P w base spare held [] o 0 (α := Unit) (fun _ => []) (fun _ => True) (fun _ => []) := fun n cs _ => ⟨(), by simp, trivial, trivial⟩
theorem decFW_cons {f : Field} {fs : List Field} {o k sz : Nat} {α β : Type} {c1 : α → List Value} {ok1 : α → Prop} {s1 : α → List Chunk} {c2 : β → List Value} {ok2 : β → Prop} {s2 : β → List Chunk} (ho : f.offset = o) (hk : P.cellsOf f.type = k)
    (h1 : DecW enc P w base spare held f.type c1 ok1 s1) (h2 : DecFW enc P w base spare held fs (o + k) sz c2 ok2 s2) : DecFW enc P w base spare held (f :: fs) o (k + sz) (fun x : α × β => c1 x.1 ++ c2 x.2) (fun x => ok1 x.1 ∧ ok2 x.2) (fun x => s1 x.1 ++ s2 x.2) := fun n cs h => by
  obtain ⟨y, hy, hyl⟩ := h f (by simp)
  rw [ho, hk] at hy
  obtain ⟨a, ha, hoa, hsa⟩ := h1 n _ _ hy hyl
  obtain ⟨b, hb, hob, hsb⟩ := h2 n cs (fun g hg => h g (by simp [hg]))
  refine ⟨(a, b), ?_, ⟨hoa, hob⟩, hsa.append hsb⟩
  show _ = c1 a ++ c2 b
  rw [← ha, ← hb, List.take_add, List.drop_drop]
theorem decW_struct {t : TypeId} {fs : Array Field} {sz : Nat} {α : Type} {cells : α → List Value} {ok : α → Prop} {seen : α → List Chunk} (ht : P.underlying t = some (.struct fs)) (hsz : P.cellsOf t = sz) (h : DecFW enc P w base spare held fs.toList 0 sz cells ok seen) : DecW enc P w base spare held t cells ok seen := fun fuel cs x hx hlight => by
  obtain ⟨xs, n, _, rfl, hl, hlen, hf⟩ := DataW.trod_struct ht hx
  have hw0 : ∀ n ∈ DataW.weights P t (.agg (xs.map (·.1)) : DataW H), n ≤ reachBytes := hlight
  obtain ⟨a, ha, h1, h2⟩ := h n cs (fun f hf' => by
    obtain ⟨i, hi⟩ := List.mem_iff_getElem?.1 hf'
    have hi' : fs[i]? = some f := by simpa using hi
    have := hf i f hi'
    have hlt : i < xs.length := by rw [hlen]; exact (Array.getElem?_eq_some_iff.1 hi').1
    refine ⟨xs[i], by rw [this]; simp [hlt], fun n hn => hw0 n ?_⟩
    simp only [DataW.weights, ht]
    exact weightsEach_mem (i := i) hi (by simp [hlt]) n hn)
  refine ⟨a, ?_, h1, h2⟩
  rw [List.drop_zero, List.take_of_length_le (by omega)] at ha
  exact ha
/-- The weights of the j-th argument. -/
theorem light_arg {ts : List TypeId} {ds : List (DataW H)} (h : (DataW.weightsEach P ts ds).all (· ≤ reachBytes) = true) {j : Nat} {t : TypeId} {d : DataW H} (ht : ts[j]? = some t) (hd : ds[j]? = some d) : Light P t d := fun n hn => by
  have := List.all_eq_true.1 h n (DataW.weights_mem_each ht hd n hn)
  simpa using this
/-- An argument that is a slice. -/
theorem arg_sliceW {t e : TypeId} {α : Type} {cells : α → List Value} {ok : α → Prop} {seen : α → List Chunk} {sz bz : Nat} {v : Value} {d : DataW H} {ps : List MemPlace} (ht : P.underlying t = some (.slice e)) (hsz : P.cellsOf e = sz) (hbz : P.bytesOf e = bz) (hpos : 0 < sz) (hc : ∀ a, (cells a).length = sz) (hd : DecW enc P w base spare held e cells ok seen)
    (hv : Value.okWide P w r b0 t v) (h : DataW.Trod enc P w base spare held t v d ps) (hl : Light P t d) :
    ∃ (ao : Option Addr) (cap : Nat) (l : List α), v = .slice ao l.length cap ∧ l.length ≤ cap ∧ cap ≤ maxLen ∧ l.length * bz ≤ reachBytes ∧ (∀ a ∈ l, ok a) ∧ Seen w (rng ao (l.flatMap cells) :: l.flatMap seen) := by
  obtain ⟨a0, len, cap, rfl⟩ := okWide_slice ht hv
  obtain ⟨fuel, hf⟩ := h
  obtain ⟨⟨ao, cap', l⟩, hcs, ⟨⟨h1, h2, h3⟩, h4⟩, h5⟩ := decW_slice ht hsz hbz hpos hc hd fuel _ _ hf hl
  simp [Value.cells] at hcs
  obtain ⟨rfl, rfl, rfl⟩ := hcs
  exact ⟨a0, cap, l, rfl, h1, h2, h3, h4, h5⟩
/-- An argument that is a struct. -/
theorem arg_structW {t : TypeId} {fs : Array Field} {α : Type} {cells : α → List Value} {ok : α → Prop} {seen : α → List Chunk} {v : Value} {d : DataW H} {ps : List MemPlace} (ht : P.underlying t = some (.struct fs)) (hd : DecW enc P w base spare held t cells ok seen)
    (hv : Value.okWide P w r b0 t v) (h : DataW.Trod enc P w base spare held t v d ps) (hl : Light P t d) :
    ∃ a : α, v = .agg (cells a).toArray ∧ ok a ∧ Seen w (seen a) := by
  obtain ⟨cs, rfl, _⟩ := okWide_struct ht hv
  obtain ⟨fuel, hf⟩ := h
  obtain ⟨a, hcs, h1, h2⟩ := hd fuel _ _ hf hl
  refine ⟨a, ?_, h1, h2⟩
  rw [← hcs]
  simp [Value.cells]
theorem seen_see {cs : List Chunk} (h : Seen w cs) : Seen w [seeL cs] :=
  ⟨⟨rfl, fun c hc => (h.mem c hc).2.1, fun k ⟨c, hc, hk⟩ => (h.mem c hc).2.2 k hk⟩, trivial⟩
end
end Go.Sx

/- Small rules for symbolic steps, the twenty-first part: what is read alone, out of what is owned; lists of what is read. Program-independent. -/
import Derived.Test.YtgmegfmabkkaoaaSxJ
import Derived.Test.YtgmegfmabkkaoaaSxK
namespace Go.Sx
open Go Chunk
set_option linter.unusedSimpArgs false
set_option linter.unusedVariables false

/-- All that c says is said by R. -/
def Prov (R : List Chunk) (c : Chunk) : Prop := (∀ k, c.own k → ∃ x ∈ R, x.own k) ∧ ∀ w, (∀ x ∈ R, x.ok w) → c.ok w
theorem prov_mem {R : List Chunk} {c : Chunk} (h : c ∈ R) : Prov R c := ⟨fun k hk => ⟨c, h, hk⟩, fun w hw => hw c h⟩
theorem Prov.trans {R S : List Chunk} {c : Chunk} (h : Prov S c) (hs : ∀ x ∈ S, Prov R x) : Prov R c :=
  ⟨fun k hk => by obtain ⟨x, hx, hxo⟩ := h.1 k hk; exact (hs x hx).1 k hxo, fun w hw => h.2 w (fun x hx => (hs x hx).2 w hw)⟩
theorem Prov.one {R : List Chunk} {c d : Chunk} (h : Prov [d] c) (hd : Prov R d) : Prov R c := h.trans (fun x hx => by simp only [List.mem_singleton] at hx; subst hx; exact hd)
theorem Prov.mono {R S : List Chunk} {c : Chunk} (h : Prov R c) (hs : ∀ x ∈ R, x ∈ S) : Prov S c := h.trans (fun x hx => prov_mem (hs x hx))
theorem rng_nil {ao : Option Addr} {R : List Chunk} : Prov R (rng ao []) := ⟨fun k hk => absurd rfl hk.1, fun w hw j v hj => by simp at hj⟩
theorem row_rng {a : Option Addr} {cap e sz n : Nat} {xs : List Value} : Prov [row a cap e sz n xs] (rng a xs) := by
  refine ⟨fun k hk => ⟨_, List.mem_singleton.2 rfl, ?_⟩, fun w hw j v hj => ?_⟩
  · obtain ⟨_, ad, rfl, rfl⟩ := hk
    rfl
  · have hok : w.ownsRow 0 e sz (.slice a n cap) n xs := hw (row a cap e sz n xs) (by simp)
    rcases hok.2 with ⟨hv, hz⟩ | ⟨g, _, _, hv, _⟩
    · have := hok.1
      rw [hz, Nat.zero_mul] at this
      rw [List.length_eq_zero_iff.1 this] at hj
      simp at hj
    · simp only [Value.slice.injEq] at hv
      obtain ⟨rfl, _, _⟩ := hv
      refine ⟨_, rfl, ?_⟩
      have := hok.cells (g := g) rfl j v hj
      exact this
theorem blk_rng {b : Nat} {cs : List Value} {t : TypeId} : Prov [blk b cs t] (rng (some ⟨b, 0, none⟩) cs) := by
  refine ⟨fun k hk => ⟨_, List.mem_singleton.2 rfl, ?_⟩, fun w hw j v hj => ⟨_, rfl, ?_⟩⟩
  · obtain ⟨_, ad, hd, rfl⟩ := hk
    cases hd
    rfl
  · have := blk_cell (hw _ (List.mem_singleton.2 rfl)) j
    rw [addr_add, Nat.zero_add, this, hj]
theorem rng_drop {a : Addr} {cs : List Value} (k : Nat) : Prov [rng (some a) cs] (rng (some (a.add k)) (cs.drop k)) := by
  refine ⟨fun i hi => ⟨_, List.mem_singleton.2 rfl, ?_⟩, fun w hw j v hj => ⟨_, rfl, ?_⟩⟩
  · obtain ⟨hne, ad, hd, rfl⟩ := hi
    cases hd
    refine ⟨fun h => hne (by rw [h]; simp), a, rfl, ?_⟩
    unfold Addr.add
    split <;> rfl
  · rw [List.getElem?_drop] at hj
    rw [add_add]
    exact rng_cell (hw _ (by simp)) _ v hj
theorem rng_take {ao : Option Addr} {cs : List Value} (k : Nat) : Prov [rng ao cs] (rng ao (cs.take k)) := by
  refine ⟨fun i hi => ⟨_, List.mem_singleton.2 rfl, ?_⟩, fun w hw j v hj => ?_⟩
  · obtain ⟨hne, ad, rfl, rfl⟩ := hi
    exact ⟨fun h => hne (by rw [h]; simp), ad, rfl, rfl⟩
  · rw [List.getElem?_take] at hj
    split at hj
    · exact hw (rng ao cs) (by simp) j v hj
    · cases hj
/-- A list of what is read, as one. -/
def seeL (cs : List Chunk) : Chunk := .see ⟨fun k => ∃ c ∈ cs, c.own k, fun w => ∀ c ∈ cs, c.ok w, fun w w' h hok c hc => c.loc w w' (fun k hk => h k ⟨c, hc, hk⟩) (hok c hc)⟩
theorem see_mem {cs : List Chunk} {c : Chunk} (h : c ∈ cs) : Prov [seeL cs] c := ⟨fun k hk => ⟨seeL cs, List.mem_singleton.2 rfl, c, h, hk⟩, fun w hw => hw (seeL cs) (by simp) c h⟩
theorem prov_see {R cs : List Chunk} (h : ∀ c ∈ cs, Prov R c) : Prov R (seeL cs) :=
  ⟨fun k ⟨c, hc, hk⟩ => (h c hc).1 k hk, fun w hw c hc => (h c hc).2 w hw⟩
/-- A list of what is owned, and read from now on. -/
def genL (cs : List Chunk) : Chunk := .gen ⟨fun k => ∃ c ∈ cs, c.own k, fun w => ∀ c ∈ cs, c.ok w, fun w w' h hok c hc => c.loc w w' (fun k hk => h k ⟨c, hc, hk⟩) (hok c hc)⟩
theorem gen_mem {cs : List Chunk} {c : Chunk} (h : c ∈ cs) : Prov [genL cs] c := ⟨fun k hk => ⟨genL cs, List.mem_singleton.2 rfl, c, h, hk⟩, fun w hw => hw (genL cs) (by simp) c h⟩

theorem lend_prov {R B : List Chunk} {c : Chunk} (hwr : c.wr = false) (hp : Prov R c) (h : LendsAll R B) : LendsAll R (c :: B) := ⟨⟨hwr, hp.1, hp.2⟩, h⟩
theorem lend_row {a : Option Addr} {cap e sz n : Nat} {xs : List Value} {R B : List Chunk} {k : Nat} (hp : nthC R k = some (row a cap e sz n xs)) (h : LendsAll R B) : LendsAll R (rng a xs :: B) := lend_prov rfl (row_rng.one (prov_mem (nthC_mem hp))) h
theorem lend_blk {b : Nat} {cs : List Value} {t : TypeId} {R B : List Chunk} {k : Nat} (hp : nthC R k = some (blk b cs t)) (h : LendsAll R B) : LendsAll R (rng (some ⟨b, 0, none⟩) cs :: B) := lend_prov rfl (blk_rng.one (prov_mem (nthC_mem hp))) h
theorem lend_nil {ao : Option Addr} {R B : List Chunk} (h : LendsAll R B) : LendsAll R (rng ao [] :: B) := lend_prov rfl rng_nil h

/-- What may be read alone. -/
def ros (H : List Chunk) : List Chunk := H.filter fun c => !c.wr
theorem ros_mem {H : List Chunk} {c : Chunk} (h : c ∈ ros H) : c ∈ H ∧ c.wr = false := by
  have := List.mem_filter.1 h
  exact ⟨this.1, by simpa using this.2⟩
section
variable {w0 w : World} {M : Nat → Prop} {H : List Chunk}
theorem Sep.dom' : ∀ {H : List Chunk}, Sep w0 M w H → ∀ c ∈ H, ∀ k, c.own k → k < w.heap.size
  | [], _, c, hc => by simp at hc
  | d :: H, h, c, hc => by
    rcases List.mem_cons.1 hc with rfl | hc
    · exact fun k hk => (h.2.1 k hk).1
    · exact Sep.dom' h.2.2.2 c hc
theorem Sep.apart' : ∀ {H : List Chunk}, Sep w0 M w H → ∀ c ∈ H, ∀ d ∈ H, c.wr = false → d.wr = true → c.Apart d
  | [], _, c, hc => by simp at hc
  | x :: H, h, c, hc => fun d hd hcw hdw => by
    rcases List.mem_cons.1 hc with rfl | hc
    · rcases List.mem_cons.1 hd with rfl | hd
      · rw [hcw] at hdw; cases hdw
      · exact h.2.2.1 d hd
    · rcases List.mem_cons.1 hd with hdx | hd
      · rw [hdx]; exact (h.2.2.1 c hc).symm
      · exact Sep.apart' h.2.2.2 c hc d hd hcw hdw
/-- What is said by what is read alone. -/
theorem St.look (hw : St w0 M w H) {c : Chunk} (hc : c.wr = false) (hp : Prov (ros H) c) : St w0 M w (c :: H) := by
  refine ⟨hw.base, hp.2 w (fun x hx => hw.sep.mem x (ros_mem hx).1), fun k hk => ⟨?_, fun h => by rw [hc] at h; cases h⟩, fun d hd hwr => ?_, hw.sep⟩
  · obtain ⟨x, hx, hxo⟩ := hp.1 k hk
    exact hw.sep.dom' x (ros_mem hx).1 k hxo
  · rcases hwr with h | h
    · rw [hc] at h; cases h
    · intro k hk hdk
      obtain ⟨x, hx, hxo⟩ := hp.1 k hk
      exact hw.sep.apart' x (ros_mem hx).1 d hd (ros_mem hx).2 h (.inr h) k hxo hdk
/-- What is owned is read alone from now on. -/
theorem St.freeze {c d : Chunk} (hw : St w0 M w (d :: H)) (hc : c.wr = false) (hp : Prov [d] c) : St w0 M w (c :: H) := by
  obtain ⟨hb, h1, h2, h3, h4⟩ := hw
  refine ⟨hb, hp.2 w (fun x hx => by simp only [List.mem_singleton] at hx; subst hx; exact h1), fun k hk => ⟨?_, fun h => by rw [hc] at h; cases h⟩, fun e he hwr => ?_, h4⟩
  · obtain ⟨x, hx, hxo⟩ := hp.1 k hk
    simp only [List.mem_singleton] at hx
    subst hx
    exact (h2 k hxo).1
  · rcases hwr with h | h
    · rw [hc] at h; cases h
    · intro k hk hek
      obtain ⟨x, hx, hxo⟩ := hp.1 k hk
      simp only [List.mem_singleton] at hx
      subst hx
      exact h3 e he (.inr h) k hxo hek
/-- Two that are owned, as one. -/
theorem St.gens {cs : List Chunk} {c d : Chunk} (hw : St w0 M w (c :: d :: H)) (hc : c.wr = true) (hd : d.wr = true) (hp : ∀ x ∈ cs, Prov [c, d] x) : St w0 M w (genL cs :: H) := by
  obtain ⟨hb, h1, h2, h3, h4, h5, h6, h7⟩ := hw
  have key : ∀ k, (genL cs).own k → c.own k ∨ d.own k := fun k hk => by
    obtain ⟨x, hx, hxk⟩ := hk
    obtain ⟨y, hy, hyk⟩ := (hp x hx).1 k hxk
    simp only [List.mem_cons, List.not_mem_nil, or_false] at hy
    rcases hy with rfl | rfl
    · exact .inl hyk
    · exact .inr hyk
  refine ⟨hb, fun x hx => (hp x hx).2 w (fun y hy => ?_), fun k hk => ?_, fun e he hwr k hk hek => ?_, h7⟩
  · simp only [List.mem_cons, List.not_mem_nil, or_false] at hy
    rcases hy with rfl | rfl
    · exact h1
    · exact h4
  · rcases key k hk with h | h
    · exact ⟨(h2 k h).1, fun _ => (h2 k h).2 hc⟩
    · exact ⟨(h5 k h).1, fun _ => (h5 k h).2 hd⟩
  · rcases key k hk with h | h
    · exact h3 e (by simp [he]) (.inl hc) k h hek
    · exact h6 e he (.inl hd) k h hek
theorem St.gen1 {cs : List Chunk} {c : Chunk} (hw : St w0 M w (c :: H)) (hc : c.wr = true) (hp : ∀ x ∈ cs, Prov [c] x) : St w0 M w (genL cs :: H) := by
  obtain ⟨hb, h1, h2, h3, h7⟩ := hw
  have key : ∀ k, (genL cs).own k → c.own k := fun k hk => by
    obtain ⟨x, hx, hxk⟩ := hk
    obtain ⟨y, hy, hyk⟩ := (hp x hx).1 k hxk
    simp only [List.mem_singleton] at hy
    subst hy
    exact hyk
  refine ⟨hb, fun x hx => (hp x hx).2 w (fun y hy => ?_), fun k hk => ⟨(h2 k (key k hk)).1, fun _ => (h2 k (key k hk)).2 hc⟩, fun e he hwr k hk hek => h3 e he (.inl hc) k (key k hk) hek, h7⟩
  simp only [List.mem_singleton] at hy
  subst hy
  exact h1
end
end Go.Sx

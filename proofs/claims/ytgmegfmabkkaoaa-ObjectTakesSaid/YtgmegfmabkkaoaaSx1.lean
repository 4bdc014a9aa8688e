/- Small rules for symbolic steps through Go code: what is known of temporaries (Env), of memory (St), and one rule for each operation. Program-independent. -/
import Derived.WalkKit
import Derived.Laws.AppendOwn
import Derived.Laws.Tables
import Derived.Laws.NewFold
import Derived.Great.BuildSlice
import Derived.Deep.Draws
namespace Go.Sx
open Go

/-! ### What is known of the temporaries -/
abbrev Env := List (Nat × Value)
def Env.get : Env → Nat → Option Value
  | [], _ => none
  | (d, v) :: E, t => bif Nat.beq d t then some v else Env.get E t
def Env.ev (E : Env) : Operand → Option Value
  | .tmp t => E.get t
  | .const v => some v
  | .global g => some (.pointer (some ⟨g, 0, none⟩))
  | .func f => some (.func (.func f) #[] #[])
def Env.evs (E : Env) : List Operand → Option (List Value)
  | [] => some []
  | x :: xs => match E.ev x, Env.evs E xs with
    | some v, some vs => some (v :: vs)
    | _, _ => none
def Env.evps (E : Env) : List (Nat × Operand) → Option (List (Nat × Value))
  | [] => some []
  | (i, x) :: xs => match E.ev x, Env.evps E xs with
    | some v, some vs => some ((i, v) :: vs)
    | _, _ => none

/-- An activation: how many temporaries, its deferred calls, and the round of a range over a function that it is. -/
structure Cx where
  mk ::
  (m : Nat) (ds : List Deferred) (ro : Option Nat)
structure EnvOk (a : Act) (E : Env) (n : Cx) : Prop where
  defers : a.defers = n.ds
  size : a.tmps.size = n.m
  get : ∀ t v, E.get t = some v → a.tmps[t]? = some v

theorem EnvOk.eval {a : Act} {E : Env} {n : Cx} (h : EnvOk a E n) {x : Operand} {v : Value} (hx : E.ev x = some v) : a.eval x = v := by
  cases x with
  | tmp t => simp only [Act.eval, Array.getD_eq_getD_getElem?, h.get t v hx, Option.getD_some]
  | const c => simpa [Act.eval, Env.ev] using hx
  | global g => simpa [Act.eval, Env.ev] using hx
  | func f => simpa [Act.eval, Env.ev] using hx

theorem EnvOk.evals {a : Act} {E : Env} {n : Cx} (h : EnvOk a E n) : ∀ {xs : List Operand} {vs : List Value}, E.evs xs = some vs → xs.map a.eval = vs
  | [], vs, hx => by simpa [Env.evs] using hx
  | x :: xs, vs, hx => by
    unfold Env.evs at hx
    cases h1 : E.ev x with
    | none => simp [h1] at hx
    | some v =>
      cases h2 : E.evs xs with
      | none => simp [h1, h2] at hx
      | some ws =>
        simp only [h1, h2, Option.some.injEq] at hx
        subst hx
        simp [h.eval h1, h.evals h2]

theorem EnvOk.evalps {a : Act} {E : Env} {n : Cx} (h : EnvOk a E n) : ∀ {xs : List (Nat × Operand)} {vs : List (Nat × Value)}, E.evps xs = some vs → xs.map (fun p => (p.1, a.eval p.2)) = vs
  | [], vs, hx => by simpa [Env.evps] using hx
  | (i, x) :: xs, vs, hx => by
    unfold Env.evps at hx
    cases h1 : E.ev x with
    | none => simp [h1] at hx
    | some v =>
      cases h2 : E.evps xs with
      | none => simp [h1, h2] at hx
      | some ws =>
        simp only [h1, h2, Option.some.injEq] at hx
        subst hx
        simp [h.eval h1, h.evalps h2]

theorem EnvOk.put {a : Act} {E : Env} {n : Cx} (h : EnvOk a E n) {d : Nat} {v : Value} (hd : Nat.blt d n.m = true) : EnvOk (a.put (some d) v) ((d, v) :: E) n := by
  have hd' : d < n.m := by simpa [Nat.blt_eq] using hd
  refine ⟨h.defers, by simp [Act.put, h.size], fun t u ht => ?_⟩
  simp only [Env.get] at ht
  by_cases hdt : d = t
  · subst hdt
    simp only [Nat.beq_refl, cond_true, Option.some.injEq] at ht
    subst ht
    simp [Act.put, h.size, hd']
  · have hb : Nat.beq d t = false := by
      cases hh : Nat.beq d t
      · rfl
      · exact absurd (Nat.eq_of_beq_eq_true hh) hdt
    simp only [hb, cond_false] at ht
    simp [Act.put, Array.getElem?_setIfInBounds_ne hdt, h.get t u ht]

theorem EnvOk.put_none {a : Act} {E : Env} {n : Cx} (h : EnvOk a E n) {v : Value} : EnvOk (a.put none v) E n := h

/-- What of E is kept in F. -/
def EnvSub (E : Env) : Env → Prop
  | [] => True
  | (t, v) :: F => E.get t = some v ∧ EnvSub E F
theorem EnvSub.get {E : Env} : ∀ {F : Env}, EnvSub E F → ∀ t v, F.get t = some v → E.get t = some v
  | [], _, t, v, h => by simp [Env.get] at h
  | (d, u) :: F, hs, t, v, h => by
    simp only [Env.get] at h
    cases hb : Nat.beq d t with
    | true =>
      simp only [hb, cond_true, Option.some.injEq] at h
      have hdt := Nat.eq_of_beq_eq_true hb
      subst hdt; subst h
      exact hs.1
    | false =>
      simp only [hb, cond_false] at h
      exact hs.2.get t v h
theorem EnvOk.sub {a : Act} {E F : Env} {n : Cx} (h : EnvOk a E n) (hs : EnvSub E F) : EnvOk a F n :=
  ⟨h.defers, h.size, fun t v ht => h.get t v (hs.get t v ht)⟩

def Env.ofArgs : Nat → List Value → Env
  | _, [] => []
  | i, v :: vs => (i, v) :: Env.ofArgs (i + 1) vs
theorem Env.get_ofArgs : ∀ (vs : List Value) (i t : Nat) (v : Value), (Env.ofArgs i vs).get t = some v → i ≤ t ∧ vs[t - i]? = some v
  | [], i, t, v, h => by simp [Env.ofArgs, Env.get] at h
  | u :: vs, i, t, v, h => by
    simp only [Env.ofArgs, Env.get] at h
    cases hb : Nat.beq i t with
    | true =>
      simp only [hb, cond_true, Option.some.injEq] at h
      have hit := Nat.eq_of_beq_eq_true hb
      subst hit; subst h
      simp
    | false =>
      simp only [hb, cond_false] at h
      obtain ⟨h1, h2⟩ := Env.get_ofArgs vs (i + 1) t v h
      refine ⟨by omega, ?_⟩
      rw [show t - i = (t - (i + 1)) + 1 by omega]
      simpa using h2

/-! ### What is known of memory -/
/-- A piece of memory of whatever kind: the blocks that it owns, and what is known of it. -/
structure Piece where
  own : Nat → Prop
  ok : World → Prop
  loc : ∀ w w' : World, (∀ k, own k → w'.heap[k]? = w.heap[k]?) → ok w → ok w'

/-- A piece of memory. -/
inductive Chunk where
  /-- a whole block of cells -/
  | blk (b : Nat) (cs : List Value) (t : TypeId)
  /-- a block of whatever kind -/
  | obj (b : Nat) (o : Obj)
  /-- a row that a slice owns: nil, or from the beginning of a block; n elements of sz cells, the cells xs -/
  | row (ao : Option Addr) (cap : Nat) (e : TypeId) (sz n : Nat) (xs : List Value)
  /-- cells that are read alone: from an address on -/
  | rng (ao : Option Addr) (cs : List Value)
  /-- a block of bytes that a conversion has laid: marked behind its cells -/
  | fro (b : Nat) (cs : List Value) (t : TypeId)
  | gen (p : Piece)
  /-- likewise, read alone -/
  | see (p : Piece)

/-- May it be written? -/
def Chunk.wr : Chunk → Bool
  | .rng _ _ | .see _ => false
  | _ => true
def Chunk.own : Chunk → Nat → Prop
  | .blk b _ _, k => k = b
  | .obj b _, k => k = b
  | .row ao cap _ _ n _, k => (Value.slice ao n cap).ownBlock = some k
  | .rng ao cs, k => cs ≠ [] ∧ ∃ a, ao = some a ∧ k = a.block
  | .fro b _ _, k => k = b
  | .gen p, k => p.own k
  | .see p, k => p.own k
def Chunk.ok : Chunk → World → Prop
  | .blk b cs t, w => w.heap[b]? = some (.cells cs.toArray t (0, 0))
  | .obj b o, w => w.heap[b]? = some o
  | .row ao cap e sz n xs, w => w.ownsRow 0 e sz (.slice ao n cap) n xs
  | .rng ao cs, w => ∀ j v, cs[j]? = some v → ∃ a, ao = some a ∧ w.cell? (a.add j) = some v
  | .fro b cs t, w => w.heap[b]? = some (.cells cs.toArray t (cs.length, cs.length + 1))
  | .gen p, w => p.ok w
  | .see p, w => p.ok w
theorem Chunk.loc (c : Chunk) (w w' : World) (h : ∀ k, c.own k → w'.heap[k]? = w.heap[k]?) (hok : c.ok w) : c.ok w' := by
  cases c with
  | blk b cs t => exact (h b rfl).trans hok
  | obj b o => exact (h b rfl).trans hok
  | row ao cap e sz n xs =>
    obtain ⟨h1, h2⟩ := hok
    refine ⟨h1, ?_⟩
    rcases h2 with h2 | ⟨g, c, cur, hv, hb, hg, r⟩
    · exact .inl h2
    · refine .inr ⟨g, c, cur, hv, hb, ?_, r⟩
      rw [← hg]
      exact h g (by show (Value.slice ao n cap).ownBlock = some g; rw [hv]; rfl)
  | rng ao cs =>
    intro j v hj
    obtain ⟨a, rfl, hc⟩ := hok j v hj
    have hb : (a.add j).block = a.block := by unfold Addr.add; split <;> rfl
    refine ⟨a, rfl, ?_⟩
    rw [← hc]
    exact World.cell?_of_block (w := w) (by rw [hb]; exact h _ ⟨fun hn => by subst hn; simp at hj, a, rfl, rfl⟩)
  | fro b cs t => exact (h b rfl).trans hok
  | gen p => exact p.loc w w' h hok
  | see p => exact p.loc w w' h hok

def Chunk.Apart (c d : Chunk) : Prop := (c.wr = true ∨ d.wr = true) → ∀ k, c.own k → ¬ d.own k

structure Base (w0 : World) (M : Nat → Prop) (w : World) : Prop where
  os : w.os = w0.os
  tape : w.tape = w0.tape
  output : w.output = w0.output
  size : w0.heap.size ≤ w.heap.size
  old : ∀ k, k < w0.heap.size → ¬ M k → w.heap[k]? = w0.heap[k]?

def Sep (w0 : World) (M : Nat → Prop) (w : World) : List Chunk → Prop
  | [] => True
  | c :: H => c.ok w ∧ (∀ k, c.own k → k < w.heap.size ∧ (c.wr = true → M k ∨ w0.heap.size ≤ k)) ∧ (∀ d ∈ H, c.Apart d) ∧ Sep w0 M w H

structure St (w0 : World) (M : Nat → Prop) (w : World) (H : List Chunk) : Prop where
  base : Base w0 M w
  sep : Sep w0 M w H

theorem Base.refl (w : World) (M : Nat → Prop) : Base w M w := ⟨rfl, rfl, rfl, Nat.le_refl _, fun _ _ _ => rfl⟩

/-- What a step does to memory: the blocks of 'own' alone may turn. -/
structure Turns (own : Nat → Prop) (w w' : World) : Prop where
  os : w'.os = w.os
  tape : w'.tape = w.tape
  output : w'.output = w.output
  size : w.heap.size ≤ w'.heap.size
  same : ∀ k, k < w.heap.size → ¬ own k → w'.heap[k]? = w.heap[k]?

theorem Turns.refl (own : Nat → Prop) (w : World) : Turns own w w := ⟨rfl, rfl, rfl, Nat.le_refl _, fun _ _ _ => rfl⟩

theorem Base.turns {w0 w w' : World} {M own : Nat → Prop} (h : Base w0 M w) (ht : Turns own w w') (hown : ∀ k, own k → M k ∨ w0.heap.size ≤ k) : Base w0 M w' :=
  ⟨ht.os.trans h.os, ht.tape.trans h.tape, ht.output.trans h.output, Nat.le_trans h.size ht.size, fun k hk hM => by
    rw [ht.same k (Nat.lt_of_lt_of_le hk h.size) (fun ho => by rcases hown k ho with h1 | h1; exact hM h1; omega), h.old k hk hM]⟩

/-- Chunks that are apart from what turns are as they were. -/
theorem Sep.keep {w0 w w' : World} {M own : Nat → Prop} (ht : Turns own w w') : ∀ {H : List Chunk}, Sep w0 M w H → (∀ d ∈ H, ∀ k, own k → ¬ d.own k) → Sep w0 M w' H
  | [], _, _ => trivial
  | c :: H, h, hap => by
    obtain ⟨h1, h2, h3, h4⟩ := h
    refine ⟨c.loc w w' (fun k hk => ht.same k (h2 k hk).1 (fun ho => hap c (by simp) k ho hk)) h1, fun k hk => ⟨Nat.lt_of_lt_of_le (h2 k hk).1 ht.size, (h2 k hk).2⟩, h3, h4.keep ht (fun d hd => hap d (by simp [hd]))⟩

theorem Sep.dom {w0 w : World} {M : Nat → Prop} : ∀ {H : List Chunk}, Sep w0 M w H → ∀ d ∈ H, ∀ k, d.own k → k < w.heap.size
  | [], _, d, hd => by simp at hd
  | c :: H, h, d, hd => by
    obtain ⟨_, h2, _, h4⟩ := h
    rcases List.mem_cons.1 hd with rfl | hd
    · exact fun k hk => (h2 k hk).1
    · exact h4.dom d hd

/-- Bring the i-th chunk to the front. -/
def pick : List Chunk → Nat → Option (Chunk × List Chunk)
  | [], _ => none
  | c :: H, 0 => some (c, H)
  | c :: H, i + 1 => match pick H i with
    | some (d, H') => some (d, c :: H')
    | none => none
theorem Chunk.Apart.symm {c d : Chunk} (h : c.Apart d) : d.Apart c := fun hw k hd hc => h hw.symm k hc hd
theorem pick_mem : ∀ {H : List Chunk} {i : Nat} {c : Chunk} {H' : List Chunk}, pick H i = some (c, H') → c ∈ H ∧ ∀ d ∈ H', d ∈ H
  | [], i, c, H', h => by simp [pick] at h
  | x :: H, 0, c, H', h => by
    simp only [pick, Option.some.injEq, Prod.mk.injEq] at h
    obtain ⟨rfl, rfl⟩ := h
    exact ⟨by simp, fun d hd => by simp [hd]⟩
  | x :: H, i + 1, c, H', h => by
    simp only [pick] at h
    cases hp : pick H i with
    | none => simp [hp] at h
    | some p =>
      obtain ⟨d, H2⟩ := p
      simp only [hp, Option.some.injEq, Prod.mk.injEq] at h
      obtain ⟨rfl, rfl⟩ := h
      obtain ⟨h1, h2⟩ := pick_mem hp
      exact ⟨by simp [h1], fun e he => by rcases List.mem_cons.1 he with rfl | he; simp; simp [h2 e he]⟩
theorem Sep.pick {w0 w : World} {M : Nat → Prop} : ∀ {H : List Chunk} {i : Nat} {c : Chunk} {H' : List Chunk}, Sx.pick H i = some (c, H') → Sep w0 M w H → Sep w0 M w (c :: H')
  | [], i, c, H', h, _ => by simp [Sx.pick] at h
  | x :: H, 0, c, H', h, hs => by
    simp only [Sx.pick, Option.some.injEq, Prod.mk.injEq] at h
    obtain ⟨rfl, rfl⟩ := h
    exact hs
  | x :: H, i + 1, c, H', h, hs => by
    simp only [Sx.pick] at h
    cases hp : Sx.pick H i with
    | none => simp [hp] at h
    | some p =>
      obtain ⟨d, H2⟩ := p
      simp only [hp, Option.some.injEq, Prod.mk.injEq] at h
      obtain ⟨rfl, rfl⟩ := h
      obtain ⟨h1, h2, h3, h4⟩ := hs
      obtain ⟨g1, g2, g3, g4⟩ := Sep.pick hp h4
      obtain ⟨m1, m2⟩ := pick_mem hp
      refine ⟨g1, g2, fun e he => ?_, h1, h2, fun e he => h3 e (m2 e he), g4⟩
      rcases List.mem_cons.1 he with rfl | he
      · exact (h3 d m1).symm
      · exact g3 e he
theorem St.pick {w0 w : World} {M : Nat → Prop} {H : List Chunk} (h : St w0 M w H) (i : Nat) {c : Chunk} {H' : List Chunk} (hp : Sx.pick H i = some (c, H')) : St w0 M w (c :: H') := ⟨h.base, h.sep.pick hp⟩
theorem St.drop {w0 w : World} {M : Nat → Prop} {c : Chunk} {H : List Chunk} (h : St w0 M w (c :: H)) : St w0 M w H := ⟨h.base, h.sep.2.2.2⟩
theorem St.head {w0 w : World} {M : Nat → Prop} {c : Chunk} {H : List Chunk} (h : St w0 M w (c :: H)) : c.ok w := h.sep.1

/-- The chunk at the front is turned into another one. -/
theorem St.turn {w0 w w' : World} {M : Nat → Prop} {c c' : Chunk} {H : List Chunk} (h : St w0 M w (c :: H)) (hw : c.wr = true) (ht : Turns c.own w w') (hok : c'.ok w')
    (hown : ∀ k, c'.own k → c.own k ∨ (w.heap.size ≤ k ∧ k < w'.heap.size)) : St w0 M w' (c' :: H) := by
  obtain ⟨hb, h1, h2, h3, h4⟩ := h
  have hM : ∀ k, c.own k → M k ∨ w0.heap.size ≤ k := fun k hk => (h2 k hk).2 hw
  have hap : ∀ d ∈ H, ∀ k, c.own k → ¬ d.own k := fun d hd => h3 d hd (.inl hw)
  refine ⟨hb.turns ht hM, hok, fun k hk => ?_, fun d hd _ k hk hdk => ?_, h4.keep ht hap⟩
  · rcases hown k hk with ho | ⟨h5, h6⟩
    · exact ⟨Nat.lt_of_lt_of_le (h2 k ho).1 ht.size, fun _ => hM k ho⟩
    · exact ⟨h6, fun _ => .inr (Nat.le_trans hb.size h5)⟩
  · rcases hown k hk with ho | ⟨h5, _⟩
    · exact hap d hd k ho hdk
    · have := h4.dom d hd k hdk; omega

/-- A new chunk. -/
theorem St.new {w0 w w' : World} {M : Nat → Prop} {c' : Chunk} {H : List Chunk} (h : St w0 M w H) (ht : Turns (fun _ => False) w w') (hok : c'.ok w')
    (hown : ∀ k, c'.own k → w.heap.size ≤ k ∧ k < w'.heap.size) : St w0 M w' (c' :: H) := by
  obtain ⟨hb, h4⟩ := h
  refine ⟨hb.turns ht (fun k hk => hk.elim), hok, fun k hk => ⟨(hown k hk).2, fun _ => .inr (Nat.le_trans hb.size (hown k hk).1)⟩, fun d hd _ k hk hdk => ?_, h4.keep ht (fun _ _ _ hk => hk.elim)⟩
  have := h4.dom d hd k hdk
  have := (hown k hk).1
  omega

theorem St.same {w0 w w' : World} {M : Nat → Prop} {H : List Chunk} (h : St w0 M w H) (ht : Turns (fun _ => False) w w') : St w0 M w' H :=
  ⟨h.base.turns ht (fun k hk => hk.elim), h.sep.keep ht (fun _ _ _ hk => hk.elim)⟩

theorem Turns.drew (own : Nat → Prop) (w : World) : Turns own w w.drew := ⟨rfl, rfl, rfl, Nat.le_refl _, fun _ _ _ => rfl⟩
theorem Turns.alloc (own : Nat → Prop) (w : World) (o : Obj) : Turns own w (w.alloc o) :=
  ⟨rfl, rfl, rfl, by show w.heap.size ≤ (w.heap.push o).size; simp, fun k hk _ => by show (w.heap.push o)[k]? = _; rw [Array.getElem?_push, if_neg (by omega)]⟩
theorem Turns.trans {own : Nat → Prop} {a b c : World} (h : Turns own a b) (k : Turns own b c) : Turns own a c :=
  ⟨k.os.trans h.os, k.tape.trans h.tape, k.output.trans h.output, Nat.le_trans h.size k.size, fun i hi ho => (k.same i (Nat.lt_of_lt_of_le hi h.size) ho).trans (h.same i hi ho)⟩
theorem Turns.mono {own own' : Nat → Prop} {a b : World} (h : Turns own a b) (hm : ∀ k, own k → own' k) : Turns own' a b :=
  ⟨h.os, h.tape, h.output, h.size, fun k hk ho => h.same k hk (fun h => ho (hm k h))⟩
theorem Turns.grown {w w' : World} {r : Option Nat} (h : w.grownBy w' r) : Turns (fun j => r = some j) w w' :=
  ⟨h.os, h.tape, h.output, h.size, fun k hk ho => h.block k hk (fun e => ho e.symm)⟩
theorem Turns.setRow (w : World) (b : Nat) (cs : Array Value) : Turns (fun j => j = b) w (w.setRow b cs) :=
  ⟨rfl, rfl, rfl, by simp, fun k _ ho => setRow_other w b k cs ho⟩

end Go.Sx

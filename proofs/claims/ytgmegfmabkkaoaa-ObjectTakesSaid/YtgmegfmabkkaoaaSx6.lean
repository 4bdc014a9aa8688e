/- Small rules for symbolic steps, the sixth part: memory. Program-independent. -/
import Derived.Test.YtgmegfmabkkaoaaSx5
namespace Go.Sx
open Go Chunk
set_option linter.unusedSimpArgs false

theorem addr_add (b o k : Nat) : (⟨b, o, none⟩ : Addr).add k = ⟨b, o + k, none⟩ := by
  unfold Addr.add; split
  · rename_i h; rw [h]; rfl
  · rfl
theorem blk_cell {w : World} {b : Nat} {cs : List Value} {t : TypeId} (h : (Chunk.blk b cs t).ok w) (o : Nat) : w.cell? ⟨b, o, none⟩ = cs[o]? := by
  have h' : w.heap[b]? = some (.cells cs.toArray t (0, 0)) := h
  rw [cell_of_row w b o _ t _ h']; simp
theorem row_cell {w : World} {g cap e sz m : Nat} {xs : List Value} (h : (Chunk.row (some ⟨g, 0, none⟩) cap e sz m xs).ok w) (o : Nat) (v : Value) (hv : xs[o]? = some v) : w.cell? ⟨g, o, none⟩ = some v := by
  have h' : w.ownsRow 0 e sz (.slice (some ⟨g, 0, none⟩) m cap) m xs := h
  have := h'.cells (g := g) rfl o v hv
  rwa [addr_add, Nat.zero_add] at this
theorem rng_cell {w : World} {a : Addr} {cs : List Value} (h : (Chunk.rng (some a) cs).ok w) (j : Nat) (v : Value) (hv : cs[j]? = some v) : w.cell? (a.add j) = some v := by
  obtain ⟨a', ha, hc⟩ := h j v hv
  cases ha
  exact hc
theorem add_add (a : Addr) (j k : Nat) : (a.add j).add k = a.add (j + k) := by
  unfold Addr.add
  by_cases hk : k = 0
  · subst hk; simp
  · by_cases hj : j = 0
    · subst hj; simp
    · rw [if_neg hk, if_neg hj, if_neg (by omega)]; simp [Nat.add_assoc]

theorem Sep.mem {w0 w : World} {M : Nat → Prop} : ∀ {H : List Chunk}, Sep w0 M w H → ∀ c ∈ H, c.ok w
  | [], _, c, hc => by simp at hc
  | d :: H, h, c, hc => by
    rcases List.mem_cons.1 hc with rfl | hc
    · exact h.1
    · exact h.2.2.2.mem c hc
theorem St.at {w0 w : World} {M : Nat → Prop} {H : List Chunk} (h : St w0 M w H) (i : Nat) {c : Chunk} (hp : H[i]? = some c) : c.ok w := h.sep.mem c (List.mem_of_getElem? hp)
/-- The i-th chunk. -/
def nthC : List Chunk → Nat → Option Chunk
  | [], _ => none
  | c :: _, 0 => some c
  | _ :: H, i + 1 => nthC H i
theorem nthC_mem : ∀ {H : List Chunk} {i : Nat} {c : Chunk}, nthC H i = some c → c ∈ H
  | [], i, c, h => by simp [nthC] at h
  | x :: H, 0, c, h => by simp only [nthC, Option.some.injEq] at h; subst h; simp
  | x :: H, i + 1, c, h => by simp only [nthC] at h; simp [nthC_mem h]
theorem St.nth {w0 w : World} {M : Nat → Prop} {H : List Chunk} (h : St w0 M w H) (i : Nat) {c : Chunk} (hp : nthC H i = some c) : c.ok w := h.sep.mem c (nthC_mem hp)

theorem find_here {c : Chunk} {H : List Chunk} : nthC (c :: H) 0 = some c := rfl
theorem find_there {c d : Chunk} {H : List Chunk} {i : Nat} (h : nthC H i = some c) : nthC (d :: H) (i + 1) = some c := h
theorem pick_here {c : Chunk} {H : List Chunk} : Sx.pick (c :: H) 0 = some (c, H) := rfl
theorem pick_there {c d : Chunk} {H H' : List Chunk} {i : Nat} (h : Sx.pick H i = some (c, H')) : Sx.pick (d :: H) (i + 1) = some (c, d :: H') := by simp [Sx.pick, h]

section
variable {P : Program} {T : Tab P} {n : Cx} {Q : Exit → Act → World → Prop} {E : Env} {w w0 : World} {M : Nat → Prop} {H H' : List Chunk} {ops : Array Oper} {L : List Oper}
  {d : Nat} {ty : TypeId} {pos : String} {after : Array Edge}

theorem isAgg_of {T : Tab P} {t : TypeId} {i : TyI} (ht : T.get t = some i) : (isAgg t).run P w = .ok (isAggD i.desc) w := by
  have hu := T.und ht
  unfold isAgg
  rw [Sem.run_bind, run_underlying hu w]
  cases i.desc <;> rfl

/-- A load of one cell whose content is known. -/
theorem xl_load_cell (T : Tab P) {x : Operand} {t : TypeId} {i : TyI} {ad : Addr} {v : Value} (hx : E.ev x = some (.pointer (some ad))) (ht : T.get t = some i) (hi : isAggD i.desc = false) (hn : Nat.blt d n.m = true)
    (hv : w.cell? ad = some v) (h : XL P ops n Q ((d, v) :: E) L w) : XL P ops n Q E (⟨some d, .load t x, ty, pos, after, none⟩ :: L) w :=
  xl_step rfl rfl hn (fun act ha => by
    simp [execOp, ha.eval hx, Instr.loadAt, Instr.sureAddr, loadVar, isAgg_of ht, hi, hv]) h
theorem xl_load_cells (T : Tab P) {x : Operand} {t : TypeId} {i : TyI} {ad : Addr} {vs : List Value} (hx : E.ev x = some (.pointer (some ad))) (ht : T.get t = some i) (hi : isAggD i.desc = true) (hn : Nat.blt d n.m = true)
    (hl : vs.length = i.size) (hv : ∀ j v, vs[j]? = some v → w.cell? (ad.add j) = some v) (h : XL P ops n Q ((d, .agg vs.toArray) :: E) L w) : XL P ops n Q E (⟨some d, .load t x, ty, pos, after, none⟩ :: L) w :=
  xl_step rfl rfl hn (fun act ha => by
    obtain ⟨ti, z, g1, g2, _, _, _⟩ := T.inf ht
    have hrun := run_loadCells_list (P := P) w ad vs hv
    rw [hl, ← g2] at hrun
    simp [execOp, ha.eval hx, Instr.loadAt, Instr.sureAddr, loadVar, isAgg_of ht, hi, sizeOf, typeInfo, program, Sem.run, g1, hrun]) h

/-- One cell of a block. -/
theorem xl_load {i : Nat} (T : Tab P) (hw : St w0 M w H) {x : Operand} {t tb : TypeId} {ti : TyI} {b o : Nat} {cs : List Value} {v : Value} (hx : E.ev x = some (.pointer (some ⟨b, o, none⟩))) (hp : nthC H i = some (blk b cs tb)) (hv : Sx.nth cs o = some v) (ht : T.get t = some ti) (hi : isAggD ti.desc = false)
    (hn : Nat.blt d n.m = true) (h : XL P ops n Q ((d, v) :: E) L w) : XL P ops n Q E (⟨some d, .load t x, ty, pos, after, none⟩ :: L) w :=
  xl_load_cell T hx ht hi hn (by rw [blk_cell (hw.nth i hp), ← nth_eq, hv]) h
/-- Some cells of a block. -/
theorem xl_loads {i : Nat} (T : Tab P) (hw : St w0 M w H) {x : Operand} {t tb : TypeId} {ti : TyI} {b o : Nat} {cs vs : List Value} (hx : E.ev x = some (.pointer (some ⟨b, o, none⟩))) (hp : nthC H i = some (blk b cs tb)) (ht : T.get t = some ti) (hi : isAggD ti.desc = true) (hv : nths cs o ti.size = some vs)
    (hn : Nat.blt d n.m = true) (h : XL P ops n Q ((d, .agg vs.toArray) :: E) L w) : XL P ops n Q E (⟨some d, .load t x, ty, pos, after, none⟩ :: L) w :=
  xl_load_cells T hx ht hi hn (nths_spec hv).1 (fun j v hj => by
    rw [addr_add, blk_cell (hw.nth i hp)]
    have hlt : j < vs.length := (List.getElem?_eq_some_iff.1 hj).1
    rw [(nths_spec hv).2 j (by rw [← (nths_spec hv).1]; exact hlt), hj]) h
/-- One cell of a row. -/
theorem xl_loadr {i : Nat} (T : Tab P) (hw : St w0 M w H) {x : Operand} {t : TypeId} {ti : TyI} {g o cap e sz m : Nat} {xs : List Value} {v : Value} (hx : E.ev x = some (.pointer (some ⟨g, o, none⟩))) (hp : nthC H i = some (row (some ⟨g, 0, none⟩) cap e sz m xs)) (ht : T.get t = some ti) (hi : isAggD ti.desc = false)
    (hn : Nat.blt d n.m = true) (hv : xs[o]? = some v) (h : XL P ops n Q ((d, v) :: E) L w) : XL P ops n Q E (⟨some d, .load t x, ty, pos, after, none⟩ :: L) w :=
  xl_load_cell T hx ht hi hn (row_cell (hw.nth i hp) o v hv) h
theorem xl_loadrs {i : Nat} (T : Tab P) (hw : St w0 M w H) {x : Operand} {t : TypeId} {ti : TyI} {g o cap e sz m : Nat} {xs vs : List Value} (hx : E.ev x = some (.pointer (some ⟨g, o, none⟩))) (hp : nthC H i = some (row (some ⟨g, 0, none⟩) cap e sz m xs)) (ht : T.get t = some ti) (hi : isAggD ti.desc = true)
    (hn : Nat.blt d n.m = true) (hl : vs.length = ti.size) (hv : ∀ j v, vs[j]? = some v → xs[o + j]? = some v) (h : XL P ops n Q ((d, .agg vs.toArray) :: E) L w) : XL P ops n Q E (⟨some d, .load t x, ty, pos, after, none⟩ :: L) w :=
  xl_load_cells T hx ht hi hn hl (fun j v hj => by rw [addr_add]; exact row_cell (hw.nth i hp) (o + j) v (hv j v hj)) h
/-- One cell of a range that is read alone. -/
theorem xl_loadg {i : Nat} (T : Tab P) (hw : St w0 M w H) {x : Operand} {t : TypeId} {ti : TyI} {a ad : Addr} {j : Nat} {xs : List Value} {v : Value} (hx : E.ev x = some (.pointer (some ad))) (hp : nthC H i = some (rng (some a) xs)) (ht : T.get t = some ti) (hi : isAggD ti.desc = false)
    (hn : Nat.blt d n.m = true) (ho : ad = a.add j) (hv : xs[j]? = some v) (h : XL P ops n Q ((d, v) :: E) L w) : XL P ops n Q E (⟨some d, .load t x, ty, pos, after, none⟩ :: L) w :=
  xl_load_cell T hx ht hi hn (by rw [ho]; exact rng_cell (hw.nth i hp) j v hv) h
theorem xl_loadgs {i : Nat} (T : Tab P) (hw : St w0 M w H) {x : Operand} {t : TypeId} {ti : TyI} {a ad : Addr} {j : Nat} {xs vs : List Value} (hx : E.ev x = some (.pointer (some ad))) (hp : nthC H i = some (rng (some a) xs)) (ht : T.get t = some ti) (hi : isAggD ti.desc = true)
    (hn : Nat.blt d n.m = true) (ho : ad = a.add j) (hv : (xs.drop j).take ti.size = vs) (hl : j + ti.size ≤ xs.length) (h : XL P ops n Q ((d, .agg vs.toArray) :: E) L w) : XL P ops n Q E (⟨some d, .load t x, ty, pos, after, none⟩ :: L) w :=
  xl_load_cells T hx ht hi hn (by rw [← hv, List.length_take, List.length_drop]; omega) (fun k v hk => by
    rw [ho, add_add]
    refine rng_cell (hw.nth i hp) (j + k) v ?_
    rw [← hv, List.getElem?_take] at hk
    split at hk
    · rwa [List.getElem?_drop] at hk
    · cases hk) h

/-! ### New variables -/
def cellsO : Value → Option (List Value)
  | .agg cs => some cs.toList
  | .int k m => some [.int k m]
  | .bool b => some [.bool b]
  | .string s => some [.string s]
  | .pointer p => some [.pointer p]
  | .slice a l c => some [.slice a l c]
  | .map r => some [.map r]
  | .func f a c => some [.func f a c]
  | .nilFunc => some [.nilFunc]
  | .iface t v => some [.iface t v]
  | .nilIface => some [.nilIface]
  | _ => none
theorem cellsO_eq {v : Value} {cs : List Value} (h : cellsO v = some cs) : v.cells = cs.toArray := by
  cases v <;> simp only [cellsO, reduceCtorEq, Option.some.injEq] at h <;> subst h <;> simp [Value.cells]

theorem St.alloc {o : Obj} (hw : St w0 M w H) : St w0 M (w.alloc o) (obj w.heap.size o :: H) :=
  hw.new (Turns.alloc _ w o) (heap_alloc_new w o) (fun k hk => by
    have hk' : k = w.heap.size := hk
    subst hk'
    exact ⟨Nat.le_refl _, by show w.heap.size < (w.heap.push o).size; simp⟩)
theorem St.allocC {cs : List Value} {t : TypeId} (hw : St w0 M w H) : St w0 M (w.alloc (.cells cs.toArray t)) (blk w.heap.size cs t :: H) :=
  hw.new (Turns.alloc _ w _) (heap_alloc_new w _) (fun k hk => by
    have hk' : k = w.heap.size := hk
    subst hk'
    exact ⟨Nat.le_refl _, by show w.heap.size < (w.heap.push _).size; simp⟩)

theorem xl_box (hw : St w0 M w H) {x : Operand} {t : TypeId} {v : Value} {cs : List Value} (hx : E.ev x = some v) (hc : cellsO v = some cs) (hn : Nat.blt d n.m = true)
    (h : ∀ b w', St w0 M w' (blk b cs t :: H) → XL P ops n Q ((d, .pointer (some ⟨b, 0, none⟩)) :: E) L w') : XL P ops n Q E (⟨some d, .box t x, ty, pos, after, none⟩ :: L) w :=
  xl_step_w rfl rfl hn (fun act ha => ⟨_, _, by simp [execOp, ha.eval hx, Instr.box, newVar, newRow, cellsO_eq hc], h _ _ hw.allocC⟩)
theorem xl_alloc (T : Tab P) (hw : St w0 M w H) {t : TypeId} {i : TyI} (ht : T.get t = some i) (hn : Nat.blt d n.m = true)
    (h : ∀ b w', St w0 M w' (blk b i.zero t :: H) → XL P ops n Q ((d, .pointer (some ⟨b, 0, none⟩)) :: E) L w') : XL P ops n Q E (⟨some d, .alloc t, ty, pos, after, none⟩ :: L) w :=
  xl_step_w rfl rfl hn (fun act _ => by
    obtain ⟨ti, z, g1, g2, _, g4, g5⟩ := T.inf ht
    exact ⟨_, _, by simp [execOp, Instr.alloc, zeroValue, typeInfo, program, Sem.run, g1, g4, newVar, newRow, g5], h _ _ hw.allocC⟩)

/-! ### Stores -/
def setO : List Value → Nat → Value → Option (List Value)
  | [], _, _ => none
  | _ :: l, 0, v => some (v :: l)
  | u :: l, i + 1, v => match setO l i v with
    | some r => some (u :: r)
    | none => none
theorem setO_eq : ∀ {l : List Value} {i : Nat} {v : Value} {r : List Value}, setO l i v = some r → i < l.length ∧ r = l.set i v
  | [], i, v, r, h => by simp [setO] at h
  | u :: l, 0, v, r, h => by simp only [setO, Option.some.injEq] at h; subst h; simp
  | u :: l, i + 1, v, r, h => by
    simp only [setO] at h
    cases h1 : setO l i v with
    | none => simp [h1] at h
    | some r' =>
      simp only [h1, Option.some.injEq] at h
      subst h
      obtain ⟨h2, h3⟩ := setO_eq h1
      exact ⟨by simp; omega, by simp [h3]⟩
def setsO (l : List Value) (i : Nat) : List Value → Option (List Value)
  | [] => some l
  | v :: vs => match setsO l (i + 1) vs with
    | some r => setO r i v
    | none => none
theorem setsO_eq : ∀ {vs : List Value} {l : List Value} {i : Nat} {r : List Value}, setsO l i vs = some r → r.length = l.length ∧ (vs ≠ [] → i + vs.length ≤ l.length) ∧ r = l.take i ++ vs ++ l.drop (i + vs.length)
  | [], l, i, r, h => by
    simp only [setsO, Option.some.injEq] at h
    subst h; simp
  | v :: vs, l, i, r, h => by
    simp only [setsO] at h
    cases h1 : setsO l (i + 1) vs with
    | none => simp [h1] at h
    | some r' =>
      simp only [h1] at h
      obtain ⟨h2, h3⟩ := setO_eq h
      obtain ⟨g1, g2, g3⟩ := setsO_eq h1
      have hil : i < l.length := by omega
      have hlen : i + (v :: vs).length ≤ l.length := by
        cases vs with
        | nil => simp; omega
        | cons x y => have := g2 (by simp); simp at this ⊢; omega
      refine ⟨by rw [h3]; simp [g1], fun _ => hlen, ?_⟩
      rw [h3, g3]
      have e1 : l.take (i + 1) = l.take i ++ [l[i]] := by rw [List.take_succ_eq_append_getElem hil]
      rw [e1]
      have el : (l.take i).length = i := by simp; omega
      rw [List.append_assoc, List.append_assoc, List.set_append_right _ _ (by omega), el, Nat.sub_self]
      simp only [List.singleton_append, List.set_cons_zero, List.length_cons]
      rw [show i + (vs.length + 1) = i + 1 + vs.length by omega]
      simp

def oneC : List Value → Bool
  | [] => true
  | v :: vs => match v with
    | .agg _ | .tuple _ => false
    | _ => oneC vs
theorem oneC_eq : ∀ {vs : List Value}, oneC vs = true → ∀ v ∈ vs, v.oneCell' = true
  | [], _, v, hv => by simp at hv
  | u :: vs, h, v, hv => by
    have h' : u.oneCell' = true ∧ oneC vs = true := by
      cases u <;> simp only [oneC, reduceCtorEq] at h <;> exact ⟨rfl, h⟩
    rcases List.mem_cons.1 hv with rfl | hv
    · exact h'.1
    · exact oneC_eq h'.2 v hv

theorem setRow_eta (w : World) (g : Nat) (cs : Array Value) : w.setRow g cs = w.setRow g cs := rfl

/-- A store into a block. -/
theorem xl_store {i : Nat} (T : Tab P) (hw : St w0 M w H) {x y : Operand} {t tb : TypeId} {ti : TyI} {b o : Nat} {cs vs cs' : List Value} {v : Value} (hx : E.ev x = some (.pointer (some ⟨b, o, none⟩))) (hp : Sx.pick H i = some (blk b cs tb, H')) (hy : E.ev y = some v) (hv : cellsO v = some vs) (h1 : oneC vs = true)
    (hs : setsO cs o vs = some cs') (ht : T.get t = some ti) (hz : Nat.beq vs.length ti.size = true) (hne : vs ≠ [])
    (h : ∀ w', St w0 M w' (blk b cs' tb :: H') → XL P ops n Q E L w') : XL P ops n Q E (⟨none, .store t x y, ty, pos, after, none⟩ :: L) w :=
  xl_step_u rfl rfl (fun act ha => by
    obtain ⟨tinf, z, g1, g2, _, _, _⟩ := T.inf ht
    have hw' := hw.pick i hp
    have hb : w.heap[b]? = some (.cells cs.toArray tb (0, 0)) := hw'.head
    have hz' : vs.length = tinf.size := by rw [g2]; exact Nat.eq_of_beq_eq_true hz
    obtain ⟨k1, k2, k3⟩ := setsO_eq hs
    have hst := run_storeCells_at P b o tb vs 0 cs.toArray w hb (by simp; have := k2 hne; omega) (oneC_eq h1)
    have hc := cellsO_eq hv
    refine ⟨w.setRow b cs'.toArray, ?_, h _ (hw'.turn rfl (Turns.setRow w b _) ?_ (fun k hk => .inl hk))⟩
    · simp only [execOp, ha.eval hx, ha.eval hy, Instr.storeAt, Instr.sureAddr, Sem.run_bind, Sem.run_pure, Result.andThen_ok, storeVar, sizeOf, typeInfo, program, Sem.run, g1, hc]
      rw [if_neg (by simp [hz'])]
      simp only [Nat.add_zero] at hst
      rw [hst]
      simp only [Result.andThen_ok]
      rw [k3]
    · exact setRow_heap w b cs.toArray _ tb _ hb)
end
theorem setsO_one {l : List Value} {i : Nat} {v : Value} (h : i < l.length) : setsO l i [v] = some (l.set i v) := by
  simp only [setsO]
  induction l generalizing i with
  | nil => simp at h
  | cons u l ih =>
    cases i with
    | zero => simp [setO]
    | succ i => simp only [setO]; rw [ih (by simpa using h)]; simp
theorem nth_lt {l : List Value} {i : Nat} {v : Value} (h : nth l i = some v) : i < l.length := by
  rw [nth_eq] at h; exact (List.getElem?_eq_some_iff.1 h).1
theorem nth_set {l : List Value} {i : Nat} {v : Value} (h : i < l.length) : nth (l.set i v) i = some v := by
  rw [nth_eq]; simp [h]
theorem nth_set_ne {l : List Value} {i j : Nat} {v : Value} (h : i ≠ j) : nth (l.set i v) j = nth l j := by
  rw [nth_eq, nth_eq, List.getElem?_set_ne h]
end Go.Sx
